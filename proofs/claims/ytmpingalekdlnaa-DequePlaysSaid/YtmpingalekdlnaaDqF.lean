/- DequeTurned: a row that is filled at one end comes out as it came in, or turned. -/
import Derived.Test.YtmpingalekdlnaaDqE
namespace Go.Proofs.Ytmpingalekdlnaa
open Go.RowKit
namespace Dq

/-- A deque, and a row of the law's own. -/
structure DqR (w : World) (d : Nat) (l : List Int) (v : Value) (m : List Int) (wr : World) : Prop where
  s : DqS w d l (fun b => v.ownBlock = some b) wr
  own : Own wr 3 1 v m.length (m.map (Value.int .i64))

theorem DqR.keeps {w wr w' : World} {d : Nat} {l m : List Int} {v : Value} (h : DqR w d l v m wr) (k : Keeps NoBlock wr w') : DqR w d l v m w' :=
  ⟨h.s.keeps k, h.own.keeps k (fun _ _ h => h)⟩

theorem r_step {f : FuncId} {args : Array Value} {w wr : World} {d : Nat} {l l' m : List Int} {v : Value} {r : Ending} (I : DqR w d l v m wr) (h : ∀ col, DequeAt col 1 wr d l → Calls Try.prog f args wr (Step col 1 wr d l' r)) :
    Calls Try.prog f args wr fun e w' => e = r ∧ DqR w d l' v m w' :=
  (s_step I.s h).mono fun _ _ ⟨he, hs, hk⟩ => ⟨he, hs, I.own.keeps hk (fun _ hb hn => hn hb)⟩

/-- The row has become another one: one that was made, or the old one grown. -/
theorem DqR.row {w wr w' : World} {d : Nat} {l m m' : List Int} {v v' : Value} (h : DqR w d l v m wr) (ho : Own w' 3 1 v' m'.length (m'.map (Value.int .i64))) (k : Keeps (fun b => v.ownBlock = some b) wr w') (hf : ∀ b, v'.ownBlock = some b → v.ownBlock = some b ∨ wr.heap.size ≤ b) : DqR w d l v' m' w' :=
  ⟨h.s.change k (fun b hb => ⟨hf b hb, ho.lt b hb⟩), ho⟩

theorem DqR.app {w wr W w' : World} {d : Nat} {l m : List Int} {v v' : Value} (h : DqR w d l v m wr) (kW : Keeps NoBlock wr W) (x : Int) (ho : Own w' 3 1 v' (m.length + 1) (m.map (Value.int .i64) ++ [.int .i64 x])) (hg : World.grownBy W w' v.ownBlock)
    (hf : ∀ b, v'.ownBlock = some b → v.ownBlock = some b ∨ W.heap.size ≤ b) : DqR w d l v' (m ++ [x]) w' :=
  h.row (by rw [List.length_append, List.length_singleton, List.map_append]; exact ho) ((kW.mono (fun _ _ h => h.elim)).grown hg (fun k hk => .inl hk)) (fun b hb => by
    rcases hf b hb with h | h
    · exact .inl h
    · exact .inr (Nat.le_trans kW.size h))

theorem dq_row0 {w wr : World} {d : Nat} {l : List Int} (S : DqS w d l (fun _ => False) wr) : DqR w d l (.slice (some ⟨wr.heap.size, 0, none⟩) 0 0) [] (wr.alloc (.cells #[] 3)) := by
  refine ⟨(S.change ((Keeps.refl _ _).alloc _) (fun b hb => ?_)), World.ownsRow_lit (base := 0) (e := 3) (size := 1) wr #[] 0 (Nat.zero_le _) (by simp [maxLen]) (by simp)⟩
  simp only [Value.ownBlock, Option.some.injEq] at hb
  subst hb
  exact ⟨.inr (Nat.le_refl _), by simp⟩

def side (front : Bool) (m : List Int) : List Int := if front then m.reverse else m

theorem side_len (front : Bool) (m : List Int) : (side front m).length = m.length := by unfold side; split <;> simp
theorem side_any (front : Bool) (m : List Int) (x : Int) : ((side front m).any fun y => y == x) = (m.any fun y => y == x) := by unfold side; split <;> simp

/-- What is left behind k that went out at an end. -/
def left (back : Bool) (L : List Int) (k : Nat) : List Int := if back then L.take (L.length - k) else L.drop k

theorem take_last (L : List Int) (j : Nat) (hj : j < L.length) : (L.take (j + 1)).eraseIdx ((L.take (j + 1)).length - 1) = L.take j := by
  rw [List.length_take, Nat.min_eq_left (by omega), Nat.add_sub_cancel]
  apply List.ext_getElem?
  intro i
  rw [List.getElem?_eraseIdx, List.getElem?_take, List.getElem?_take, List.getElem?_take]
  split
  · rw [if_pos (by omega)]
  · rw [if_neg (by omega)]

theorem drop_first (L : List Int) (k : Nat) : (L.drop k).eraseIdx 0 = L.drop (k + 1) := by
  rw [List.eraseIdx_zero, List.tail_drop]

set_option maxHeartbeats 4000000 in
set_option maxRecDepth 100000 in
theorem turned_calls (A : Option Addr) (b off len cap : Nat) (zs : List Int) (front back : Bool) (w : World) (hA : 0 < len → A = some ⟨b, off, none⟩)
    (hc : ∀ j, j < len → w.cell? ⟨b, off + j, none⟩ = some (.int .i64 (zs.getD j 0))) (hl : len ≤ 1000000000000000) :
    Calls Try.prog 7 #[.slice A len cap, .bool front, .bool back] w (EndsPost w) := by
  have Hc := Lib.hid hc
  have HA := Lib.hid hA
  clear hc hA
  go_enter Try.func7, Try.ntmps7
  go_wp2_with fail
  refine (inv_new w).mono ?_
  rintro e w1 ⟨rfl, I1⟩
  obtain ⟨d, hd⟩ : ∃ d, d = w.heap.size := ⟨_, rfl⟩
  rw [← hd] at I1 ⊢
  clear hd
  have R1 := dq_row0 I1.toS
  clear I1
  go_wp2_with fail
  go_loopw [8, 9] (fun v i wr => ∃ (k : Nat) (m : List Int) (A : Option Addr) (c : Nat), k ≤ 60 ∧ k ≤ len ∧ i = .int .i64 k ∧ v = .slice A m.length c ∧ m.length ≤ k ∧ DqR w d (side front m) v m wr) (fun _ i _ => 60 - (intOf i).toNat)
  case atStart => exact ⟨0, [], _, _, by omega, by omega, rfl, rfl, Nat.le_refl _, by unfold side; cases front <;> exact R1⟩
  case round =>
    obtain ⟨k, m, A5, c5, hk, hkl, rfl, rfl, hml, R⟩ := hrel
    clear R1
    have HR := Lib.hid R
    have hkp := R.s.kp
    clear R
    by_cases hlt : k < len ∧ k < 60
    · obtain ⟨hlt, hlt6⟩ := hlt
      obtain rfl := HA.out (by omega)
      have hbw : b < w.heap.size := World.block_lt_of_cell? w ⟨b, off + k, none⟩ (Hc.out k hlt)
      obtain ⟨x, hx⟩ : ∃ x, zs.getD k 0 = x := ⟨_, rfl⟩
      have hc0 := Hc.out k hlt
      rw [hx] at hc0
      have c1 : wr.cell? ⟨b, off + k, none⟩ = some (.int .i64 x) := by rw [hkp.cell hbw (fun h => h)]; exact hc0
      clear hx
      have hsl := side_len front m
      cases hany : m.any fun y => y == x with
      | true =>
        have hs : ((side front m).any fun y => y == x) = true := by rw [side_any]; exact hany
        have hp := Lib.hid (s_same HR.out.s (fun col h => push_has d _ x wr h hs))
        have hp2 := Lib.hid (s_same HR.out.s (fun col h => pushF_has d _ x wr h hs))
        have hin := Lib.hid (in_calls _ m x wr (Own.readsI HR.out.own) (by omega))
        have Hany := Lib.hid hany
        clear hany hs
        cases front with
        | true =>
          go_wp2_with fail
          refine hp2.out.mono ?_
          rintro e w2 ⟨rfl, rfl⟩
          go_wp2_with fail
          refine hin.out.mono ?_
          rintro e w2 ⟨rfl, rfl⟩
          rw [Hany.out]
          have HR' := HR.out
          go_wp2_with fail
          exact ⟨⟨k + 1, m, _, _, by omega, by omega, by go_num, rfl, by omega, HR'⟩, by simp [intOf]; omega⟩
        | false =>
          go_wp2_with fail
          refine hp.out.mono ?_
          rintro e w2 ⟨rfl, rfl⟩
          go_wp2_with fail
          refine hin.out.mono ?_
          rintro e w2 ⟨rfl, rfl⟩
          rw [Hany.out]
          have HR' := HR.out
          go_wp2_with fail
          exact ⟨⟨k + 1, m, _, _, by omega, by omega, by go_num, rfl, by omega, HR'⟩, by simp [intOf]; omega⟩
      | false =>
        have hs : ((side front m).any fun y => y == x) = false := by rw [side_any]; exact hany
        have Hany := Lib.hid hany
        clear hany
        cases front with
        | true =>
          have hp := Lib.hid (r_step HR.out (fun col h => pushF_new d _ x wr h hs (by omega)))
          clear hs
          go_wp2_with fail
          refine hp.out.mono ?_
          rintro e w2 ⟨rfl, R2⟩
          have c2 : w2.cell? ⟨b, off + k, none⟩ = some (.int .i64 x) := by rw [R2.s.kp.cell hbw (fun h => h)]; exact hc0
          have hin := Lib.hid (in_calls _ m x w2 (Own.readsI R2.own) (by omega))
          have HR2 := Lib.hid R2
          clear R2 c1
          go_wp2_with fail
          refine hin.out.mono ?_
          rintro e w3 ⟨rfl, rfl⟩
          rw [Hany.out]
          go_wp2_with (at_builtin; refine wpList_appN eI _ rfl _ _ rfl (.slice A5 m.length c5) m.length _ rfl (World.ownsRow.alloc HR2.out.own _) ⟨w2.heap.size, 0, none⟩ 1 1 [.int .i64 x] rfl rfl (newsB (e := 3) (block_alloc_new w2 _)) ?_ ?_ ?_ ?_)
          · simp [Value.oneCell']
          · simp only [maxLen]; omega
          · omega
          rintro v4 w4 ho4 hg4 hf4 g4 c4 rfl
          have R4 := HR2.out.app ((Keeps.refl _ _).alloc (.cells #[.int .i64 x] 3)) x ho4 hg4 (by simpa using hf4)
          have HR4 : Hid (DqR w d (side true (m ++ [x])) (.slice (some ⟨g4, 0, none⟩) (m.length + 1) c4) (m ++ [x]) w4) := by
            have h : side true (m ++ [x]) = x :: side true m := by simp [side]
            show DqR _ _ _ _ _ _
            rw [h]; exact R4
          clear R4 ho4 hg4 hf4
          go_wp2_with fail
          exact ⟨⟨k + 1, m ++ [x], some ⟨g4, 0, none⟩, c4, by omega, by omega, by go_num, by simp, by simp; omega, HR4.out⟩, by simp [intOf]; omega⟩
        | false =>
          have hp := Lib.hid (r_step HR.out (fun col h => push_new d _ x wr h hs (by omega)))
          clear hs
          go_wp2_with fail
          refine hp.out.mono ?_
          rintro e w2 ⟨rfl, R2⟩
          have c2 : w2.cell? ⟨b, off + k, none⟩ = some (.int .i64 x) := by rw [R2.s.kp.cell hbw (fun h => h)]; exact hc0
          have hin := Lib.hid (in_calls _ m x w2 (Own.readsI R2.own) (by omega))
          have HR2 := Lib.hid R2
          clear R2 c1
          go_wp2_with fail
          refine hin.out.mono ?_
          rintro e w3 ⟨rfl, rfl⟩
          rw [Hany.out]
          go_wp2_with (at_builtin; refine wpList_appN eI _ rfl _ _ rfl (.slice A5 m.length c5) m.length _ rfl (World.ownsRow.alloc HR2.out.own _) ⟨w2.heap.size, 0, none⟩ 1 1 [.int .i64 x] rfl rfl (newsB (e := 3) (block_alloc_new w2 _)) ?_ ?_ ?_ ?_)
          · simp [Value.oneCell']
          · simp only [maxLen]; omega
          · omega
          rintro v4 w4 ho4 hg4 hf4 g4 c4 rfl
          have R4 := HR2.out.app ((Keeps.refl _ _).alloc (.cells #[.int .i64 x] 3)) x ho4 hg4 (by simpa using hf4)
          have HR4 : Hid (DqR w d (side false (m ++ [x])) (.slice (some ⟨g4, 0, none⟩) (m.length + 1) c4) (m ++ [x]) w4) := R4
          clear R4 ho4 hg4 hf4
          go_wp2_with fail
          exact ⟨⟨k + 1, m ++ [x], some ⟨g4, 0, none⟩, c4, by omega, by omega, by go_num, by simp, by simp; omega, HR4.out⟩, by simp [intOf]; omega⟩
    · have hend : (k : Int) < len → (60 : Int) ≤ k := by omega
      have Hend := Lib.hid hend
      clear hend hlt
      go_upto_region 4 with fail
      go_cut [26] from 19 to 25 (fun v wx => v = .bool false ∧ wr = wx)
      case first =>
        by_cases h1 : k < len
        · have h2 : 60 ≤ (k : Int) := Hend.out (by omega)
          go_wp2_with fail
          go_meet
          case rel => exact ⟨by rw [decide_eq_false (by omega)], rfl⟩
        · have h2 : (len : Int) ≤ k := by omega
          clear h1
          go_wp2_with fail
          go_meet
          case rel => exact ⟨rfl, rfl⟩
      case rest =>
        obtain ⟨rfl, rfl⟩ := hcut
        obtain ⟨n, hn⟩ : ∃ n, Hid (m.length = n) := ⟨_, rfl⟩
        rw [hn.out]
        have R0 : DqR w d (left back (side front m) 0) (.slice A5 n c5) m wr := by
          have h0 : left back (side front m) 0 = side front m := by unfold left; split <;> simp
          rw [h0, ← hn.out]; exact HR.out
        rw [hn.out] at hml
        clear HR hkp
        go_wp2_with fail
        go_loopw [11] (fun i wr => ∃ k2 : Nat, k2 ≤ n ∧ i = .int .i64 k2 ∧ DqR w d (left back (side front m) k2) (.slice A5 n c5) m wr) (fun i _ => n - (intOf i).toNat)
        case atStart => exact ⟨0, Nat.zero_le _, rfl, R0⟩
        case round =>
          obtain ⟨k2, hk2, rfl, R2⟩ := hrel
          clear R0
          have HR2 := Lib.hid R2
          by_cases hlt : k2 < n
          · obtain ⟨g5, rfl⟩ : ∃ g5, A5 = some ⟨g5, 0, none⟩ := by
              rcases Own.form R2.own with ⟨_, h0⟩ | ⟨g, c, h1, _⟩
              · rw [hn.out] at h0; omega
              · cases h1; exact ⟨g, rfl⟩
            have ho := R2.own
            rw [hn.out] at ho
            obtain ⟨ix, hix⟩ : ∃ ix : Nat, (n : Int) - 1 - k2 = ix := ⟨((n : Int) - 1 - k2).toNat, by omega⟩
            obtain ⟨y0, hy0⟩ : ∃ y, m[k2]? = some y := ⟨_, List.getElem?_eq_getElem (by rw [hn.out]; exact hlt)⟩
            obtain ⟨y1, hy1⟩ : ∃ y, m[ix]? = some y := ⟨_, List.getElem?_eq_getElem (by rw [hn.out]; omega)⟩
            have q0 : wr.cell? ⟨g5, k2, none⟩ = some (.int .i64 y0) := by rw [World.ownsRow.cellAt ho k2 (by omega), List.getElem?_map, hy0]; rfl
            have q1 : wr.cell? ⟨g5, ix, none⟩ = some (.int .i64 y1) := by rw [World.ownsRow.cellAt ho ix (by omega), List.getElem?_map, hy1]; rfl
            have hixn : ix < n := by omega
            have Hr0 : Hid ((side true m)[ix]? = some y0) := by
              show m.reverse[ix]? = some y0
              rw [List.getElem?_reverse (by rw [hn.out]; omega), hn.out, show n - 1 - ix = k2 by omega]; exact hy0
            have Hr1 : Hid ((side true m)[k2]? = some y1) := by
              show m.reverse[k2]? = some y1
              rw [List.getElem?_reverse (by rw [hn.out]; omega), hn.out, show n - 1 - k2 = ix by omega]; exact hy1
            have Hy0 : Hid ((side false m)[k2]? = some y0) := hy0
            have Hy1 : Hid ((side false m)[ix]? = some y1) := hy1
            clear hy0 hy1 ho R2
            cases front with
            | true =>
             cases back with
             | true =>
              have hlft : left true (side true m) k2 = (side true m).take (ix + 1) := by show (side true m).take _ = _; rw [side_len, hn.out]; congr 1; omega
              have hlft2 : left true (side true m) (k2 + 1) = (side true m).take ix := by show (side true m).take _ = _; rw [side_len, hn.out]; congr 1; omega
              have hlen1 : ((side true m).take (ix + 1)).length - 1 = ix := by rw [List.length_take, side_len, hn.out]; omega
              have hp := Lib.hid (r_step HR2.out (fun col h => popB_calls d (left true (side true m) k2) y0 wr h (by rw [hlft, hlen1]; show (List.take (ix + 1) (side true m))[ix]? = some y0; rw [List.getElem?_take, if_pos (by omega)]; exact Hr0.out)))
              skip
              have hxx : (y0 != y0) = false := by simp
              have HL := Lib.hid hlft; have HL2 := Lib.hid hlft2; clear hlft hlft2 hlen1
              go_wp2_with fail
              refine hp.out.mono ?_
              rintro e w2 ⟨rfl, R2⟩
              rw [HL.out, take_last _ _ (by rw [side_len, hn.out]; omega), ← HL2.out] at R2
              have HR3 := Lib.hid R2
              clear R2
              go_wp2_with fail
              exact ⟨⟨k2 + 1, by omega, by go_num, HR3.out⟩, by simp [intOf]; omega⟩
             | false =>
              have hp := Lib.hid (r_step HR2.out (fun col h => pop_calls d (left false (side true m) k2) y1 wr h (by show (List.drop k2 (side true m))[0]? = some y1; rw [List.getElem?_drop, Nat.add_zero]; exact Hr1.out)))
              skip
              have hxx : (y1 != y1) = false := by simp
              skip
              go_wp2_with fail
              refine hp.out.mono ?_
              rintro e w2 ⟨rfl, R2⟩
              rw [show (left false (side true m) k2).eraseIdx 0 = left false (side true m) (k2 + 1) from drop_first _ _] at R2
              have HR3 := Lib.hid R2
              clear R2
              go_wp2_with fail
              exact ⟨⟨k2 + 1, by omega, by go_num, HR3.out⟩, by simp [intOf]; omega⟩
            | false =>
             cases back with
             | true =>
              have hlft : left true (side false m) k2 = (side false m).take (ix + 1) := by show (side false m).take _ = _; rw [side_len, hn.out]; congr 1; omega
              have hlft2 : left true (side false m) (k2 + 1) = (side false m).take ix := by show (side false m).take _ = _; rw [side_len, hn.out]; congr 1; omega
              have hlen1 : ((side false m).take (ix + 1)).length - 1 = ix := by rw [List.length_take, side_len, hn.out]; omega
              have hp := Lib.hid (r_step HR2.out (fun col h => popB_calls d (left true (side false m) k2) y1 wr h (by rw [hlft, hlen1]; show (List.take (ix + 1) (side false m))[ix]? = some y1; rw [List.getElem?_take, if_pos (by omega)]; exact Hy1.out)))
              skip
              have hxx : (y1 != y1) = false := by simp
              have HL := Lib.hid hlft; have HL2 := Lib.hid hlft2; clear hlft hlft2 hlen1
              go_wp2_with fail
              refine hp.out.mono ?_
              rintro e w2 ⟨rfl, R2⟩
              rw [HL.out, take_last _ _ (by rw [side_len, hn.out]; omega), ← HL2.out] at R2
              have HR3 := Lib.hid R2
              clear R2
              go_wp2_with fail
              exact ⟨⟨k2 + 1, by omega, by go_num, HR3.out⟩, by simp [intOf]; omega⟩
             | false =>
              have hp := Lib.hid (r_step HR2.out (fun col h => pop_calls d (left false (side false m) k2) y0 wr h (by show (List.drop k2 (side false m))[0]? = some y0; rw [List.getElem?_drop, Nat.add_zero]; exact Hy0.out)))
              skip
              have hxx : (y0 != y0) = false := by simp
              skip
              go_wp2_with fail
              refine hp.out.mono ?_
              rintro e w2 ⟨rfl, R2⟩
              rw [show (left false (side false m) k2).eraseIdx 0 = left false (side false m) (k2 + 1) from drop_first _ _] at R2
              have HR3 := Lib.hid R2
              clear R2
              go_wp2_with fail
              exact ⟨⟨k2 + 1, by omega, by go_num, HR3.out⟩, by simp [intOf]; omega⟩
          · obtain rfl : k2 = n := by omega
            have hnil : left back (side front m) k2 = [] := by
              unfold left
              split
              · rw [side_len, hn.out]; simp
              · rw [List.drop_of_length_le (by rw [side_len, hn.out]; omega)]
            rw [hnil] at R2
            have hp := Lib.hid (s_same R2.s (fun col h => pop_empty d wr h))
            have k05 := Lib.hid R2.s.kp
            clear hnil R2 HR2
            go_wp2_with fail
            refine hp.out.mono ?_
            rintro e w2 ⟨rfl, rfl⟩
            have k06 := k05.out
            go_wp2_with fail
            refine (awake05_calls _).mono ?_
            rintro e w6 ⟨rfl, k6⟩
            go_wp2_with fail
            go_ret
            exact ⟨rfl, (k06.trans k6 (fun _ _ h => h)).below (Nat.le_refl _) (fun _ h => h.elim)⟩

theorem turned_row (w : World) (A : Option Addr) (b off len cap : Nat) (zs : List Int) (h : IntsAt .i64 w A b off len zs) (hl : len * 8 ≤ 140737488351232) (front back : Bool) :
    Calls Try.prog 7 #[.slice A len cap, .bool front, .bool back] w fun e w' => e = .returned (.bool true) ∧ Below w.heap.size w w' :=
  turned_calls A b off len cap zs front back w h.addr h.cell (by omega)
end Dq
end Go.Proofs.Ytmpingalekdlnaa
