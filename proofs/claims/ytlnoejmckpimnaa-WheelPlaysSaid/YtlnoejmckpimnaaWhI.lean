/- WheelPlays: a clock, by whoever sleeps, and moments that go by. -/
import Derived.Test.YtlnoejmckpimnaaWhH
import Derived.Test.YtlnoejmckpimnaaRef02b
import Derived.Test.YtlnoejmckpimnaaApp
import Derived.BigQuiet
import Derived.Deep.QuietTactic
import Derived.Deep.RegionHeld3
namespace Go.Proofs.Ytlnoejmckpimnaa
open Go.RowKit Go.Maps
namespace Wh

/-- The law's rows and the clock, behind k things done. -/
structure PRel (w : World) (d mb len k : Nat) (l : List Pr) (j : Nat) (A4 : Option Addr) (c4 : Nat) (A5 : Option Addr) (c5 : Nat) (wr : World) : Prop where
  k1 : k ≤ 100
  kl : k ≤ len
  jk : j ≤ k
  lk : l.length ≤ k
  ok : OkL l
  st : ∃ n, n ≤ k ∧ St w d mb n j (fL l) wr [(.slice A4 l.length c4, whoL l), (.slice A5 l.length c5, endL l)]

theorem any_who {l : List Pr} {x : Int} : ((whoL l).any fun y => y == x) = decide (x ∈ whoL l) := by
  by_cases h : x ∈ whoL l
  · rw [decide_eq_true h, List.any_eq_true]
    exact ⟨x, h, by simp⟩
  · rw [decide_eq_false h, List.any_eq_false]
    intro y hy e
    simp at e
    exact h (e ▸ hy)

theorem St.reads {w wr : World} {d mb n : Nat} {now : Int} {f : Int → Int} {vs : List Row} (h : St w d mb n now f wr vs) {i : Nat} {v : Value} {xs : List Int} (hi : vs[i]? = some (v, xs)) : ReadsI .i64 wr v xs := Own.readsI (h.rows.own i v xs hi)

theorem who_len (l : List Pr) : (whoL l).length = l.length := List.length_map ..
theorem end_len (l : List Pr) : (endL l).length = l.length := List.length_map ..

theorem own_cap {w : World} {e : TypeId} {s : Nat} {A : Option Addr} {n c : Nat} {xs : List Value} (h : Own w e s (.slice A n c) n xs) : n ≤ c := by
  rcases Own.form h with ⟨_, h0⟩ | ⟨g, cap, hv, _, h1, _⟩
  · omega
  · injection hv with _ _ h2
    omega

/-- In the midst of a moment: the first m of those that wait were looked at. -/
structure TRel (w : World) (d mb n j : Nat) (l : List Pr) (A4 : Option Addr) (c4 : Nat) (A5 : Option Addr) (c5 : Nat) (m : Nat) (ds : List Int) (lm : List Pr) (A9 : Option Addr) (c9 : Nat) (A10 : Option Addr) (c10 : Nat) (A11 : Option Addr) (c11 : Nat) (wr : World) : Prop where
  m1 : m ≤ l.length
  lm_ : lm = (l.take m).filter (later ((j : Int) + 1))
  dl : ds.length ≤ m
  ll : lm.length ≤ m
  pw : ds.Pairwise (· < ·)
  mem : ∀ y, y ∈ ds ↔ y ∈ dueL ((j : Int) + 1) (l.take m)
  st : St w d mb n j (fL l) wr [(.slice A4 l.length c4, whoL l), (.slice A5 l.length c5, endL l), (.slice A9 ds.length c9, ds), (.slice A10 lm.length c10, whoL lm), (.slice A11 lm.length c11, endL lm)]

theorem due_no {l : List Pr} {m : Nat} {p : Pr} {lim : Int} (hp : l[m]? = some p) (h : lim < p.2) : dueL lim (l.take (m + 1)) = dueL lim (l.take m) := by
  unfold dueL
  rw [take_filter _ hp, if_neg (by unfold later; simp [h]), List.append_nil]

theorem due_yes {l : List Pr} {m : Nat} {p : Pr} {lim : Int} (hp : l[m]? = some p) (h : ¬ lim < p.2) : dueL lim (l.take (m + 1)) = dueL lim (l.take m) ++ [p.1] := by
  unfold dueL
  rw [take_filter _ hp, if_pos (by unfold later; simp [h])]
  unfold whoL
  simp

theorem due_new {l : List Pr} (hd : OkL l) {m : Nat} {p : Pr} {lim : Int} (hp : l[m]? = some p) : p.1 ∉ dueL lim (l.take m) := by
  intro e
  have h1 : p.1 ∈ whoL (l.take m) := by
    unfold dueL at e
    obtain ⟨u, hu⟩ := mem_who.1 e
    exact mem_who.2 ⟨u, (List.mem_filter.1 hu).1⟩
  unfold whoL at h1
  rw [List.map_take] at h1
  obtain ⟨i, hi, he⟩ := List.mem_iff_getElem.1 h1
  simp only [List.length_take, List.length_map] at hi
  obtain ⟨h2, h3⟩ := List.getElem?_eq_some_iff.1 hp
  have hnd := hd.nd
  unfold whoL at hnd
  have h4 := List.pairwise_iff_getElem.1 hnd i m (by simp; omega) (by simp; omega) (by omega)
  rw [List.getElem_take] at he
  rw [he] at h4
  simp only [List.getElem_map, h3] at h4
  exact h4 rfl

set_option maxHeartbeats 4000000 in
set_option maxRecDepth 100000 in
theorem plays_calls (A : Option Addr) (b off len cap : Nat) (zs : List Act) (hzl : zs.length = len) (w : World) (hA : 0 < len → A = some ⟨b, off, none⟩ ∧ b < w.heap.size)
    (hc : ∀ (j : Nat) (x : Act) (i : Nat) (u : Value), zs[j]? = some x → (encA x)[i]? = some u → w.cell? ⟨b, off + j * 2 + i, none⟩ = some u) (hl : len ≤ 1000000000000000) :
    Calls Try.prog 9 #[.slice A len cap] w fun e w' => e = .returned (.bool true) ∧ Below w.heap.size w w' := by
  have Hc := Lib.hid hc
  have HA := Lib.hid hA
  have Hzl := Lib.hid hzl
  clear hc hA hzl
  go_enter Try.func9, Try.ntmps9
  go_wp2_with fail
  refine (new_calls w).mono ?_
  rintro e w1 ⟨d, mb, rfl, h1, h2, hw1, k1⟩
  have I1 := Lib.hid (St.begin (Wl.begin h1 h2 hw1 k1))
  clear h1 h2 hw1 k1
  go_upto_region 3 with fail
  generalize hW : World.alloc (World.alloc w1 _) _ = w2
  have S2 : Hid (St w d mb 0 0 (fL []) w2 [(.slice (some ⟨w1.heap.size, 0, none⟩) 0 0, []), (.slice (some ⟨w1.heap.size + 1, 0, none⟩) 0 0, [])]) := by
    show St _ _ _ _ _ _ _ _
    have s1 := I1.out.push ((Keeps.refl NoBlock w1).alloc (.cells #[] 3)) (own_new w1.heap.size rfl) (ys := []) (fun b hb => by simp only [Value.ownBlock, Option.some.injEq] at hb; omega)
    have s2 := s1.push ((Keeps.refl NoBlock _).alloc (.cells #[] 3)) (own_new (w1.heap.size + 1) (by simp)) (ys := []) (fun b hb => by simp only [Value.ownBlock, Option.some.injEq] at hb; simp; omega)
    rw [hW] at s2
    exact s2
  clear hW I1
  go_wp2_with fail
  go_loopw [4, 5, 6, 7] (fun v4 v5 v6 v7 wr => ∃ (k j : Nat) (l : List Pr) (A4 : Option Addr) (c4 : Nat) (A5 : Option Addr) (c5 : Nat), v7 = .int .i64 k ∧ v6 = .int .i64 j ∧ v4 = .slice A4 l.length c4 ∧ v5 = .slice A5 l.length c5 ∧ PRel w d mb len k l j A4 c4 A5 c5 wr) (fun _ _ _ v7 _ => 100 - (intOf v7).toNat)
  case atStart => exact ⟨0, 0, [], _, _, _, _, rfl, rfl, rfl, rfl, ⟨by omega, by omega, by omega, Nat.le_refl _, ⟨List.nodup_nil, (fun p (hp : p ∈ ([] : List Pr)) => by cases hp), (fun p (hp : p ∈ ([] : List Pr)) => by cases hp)⟩, 0, Nat.le_refl _, S2.out⟩⟩
  case round =>
    obtain ⟨k, j, l, A4, c4, A5, c5, rfl, rfl, rfl, rfl, R⟩ := hrel
    have HR := Lib.hid R
    clear R S2
    by_cases hlt : k < len ∧ k < 100
    · obtain ⟨hlt1, hlt2⟩ := hlt
      obtain ⟨x, hx⟩ : ∃ x, zs[k]? = some x := ⟨_, List.getElem?_eq_getElem (by have := Hzl.out; omega)⟩
      obtain ⟨n, hnk, S⟩ := HR.out.st
      have hbw := (HA.out (by omega)).2
      obtain rfl := (HA.out (by omega)).1
      obtain ⟨q0', q1'⟩ := act_cells Hc.out hx
      have q0 := (S.wl.kp.cell hbw (fun e => e)).trans q0'
      have q1 := (S.wl.kp.cell hbw (fun e => e)).trans q1'
      have hk0 : (0 : Int) ≤ (k : Int) := by omega
      have hk1 : (k : Int) < (len : Int) := by omega
      have hk2 : (k : Int) < 100 := by omega
      have hwk : IntKind.i64.wrap ((k : Int) + 1) = (k : Int) + 1 := by rw [IntKind.wrap_i64]; omega
      obtain ⟨who, num, hw, hn⟩ := x
      simp only [] at q0 q1
      have Hw := Lib.hid hw
      have Hn := Lib.hid hn
      have HS := Lib.hid S
      clear q0' q1' hx hbw S hw hn
      go_upto_region 8 with fail
      generalize hW : World.alloc wr _ = w2
      obtain ⟨gx, hgx⟩ : ∃ gx, wr.heap.size = gx := ⟨_, rfl⟩
      have Bx : Hid (w2.heap[gx]? = some (.cells #[.int .i64 who, .int .i64 num] 56 (0, 0))) := by
        show _ = _
        rw [← hW, ← hgx]
        exact block_alloc_new _ _
      have S2 : Hid (St w d mb n j (fL l) w2 [(.slice A4 l.length c4, whoL l), (.slice A5 l.length c5, endL l)]) := by
        show St _ _ _ _ _ _ _ _
        rw [← hW]
        exact HS.out.keeps ((Keeps.refl _ _).alloc _)
      have Hr4 : Hid (∀ b, (Value.slice A4 l.length c4).ownBlock = some b → b < gx) := fun b hb => by have := (HS.out.rows.own 0 _ _ rfl).lt b hb; omega
      have Hr5 : Hid (∀ b, (Value.slice A5 l.length c5).ownBlock = some b → b < gx) := fun b hb => by have := (HS.out.rows.own 1 _ _ rfl).lt b hb; omega
      have hxm0 : gx ≠ mb := by have := HS.out.wl.wh.lt; omega
      rw [hgx]
      clear hW hgx HS q0 q1
      have x0 : w2.cell? ⟨gx, 0, none⟩ = some (.int .i64 who) := cell_of_block (o := 0) Bx.out rfl
      have x1 : w2.cell? ⟨gx, 1, none⟩ = some (.int .i64 num) := cell_of_block (o := 1) Bx.out rfl
      have hsame : Hid (∀ W, St w d mb n j (fL l) W [(.slice A4 l.length c4, whoL l), (.slice A5 l.length c5, endL l)] → PRel w d mb len (k + 1) l j A4 c4 A5 c5 W) := fun W h => ⟨by omega, by omega, by have := HR.out.jk; omega, by have := HR.out.lk; omega, HR.out.ok, n, by omega, h⟩
      have hok : Hid ((!decide (fL l who = 0)) = decide (who ∈ whoL l)) := by
        show _ = _
        have := fL_ne HR.out.ok who
        by_cases e : who ∈ whoL l
        · rw [decide_eq_true e]; simp [this.2 e]
        · rw [decide_eq_false e]; simp [fL_off e]
      have hlk : l.length ≤ 100 := by have := HR.out.lk; omega
      have hjk : j ≤ 100 := by have := HR.out.jk; omega
      have hxm : Hid (gx ≠ mb) := hxm0
      by_cases h0 : num = 0
      · subst h0
        clear hok hsame hxm hxm0
        have hwj : IntKind.i64.wrap ((j : Int) + 1) = (j : Int) + 1 := by rw [IntKind.wrap_i64]; omega
        go_upto_region 12 with fail
        generalize hW : World.alloc (World.alloc (World.alloc w2 _) _) _ = w3
        have S3 : Hid (St w d mb n j (fL l) w3 [(.slice A4 l.length c4, whoL l), (.slice A5 l.length c5, endL l), (.slice (some ⟨w2.heap.size, 0, none⟩) 0 0, []), (.slice (some ⟨w2.heap.size + 1, 0, none⟩) 0 0, []), (.slice (some ⟨w2.heap.size + 2, 0, none⟩) 0 0, [])]) := by
          show St _ _ _ _ _ _ _ _
          have s1 := S2.out.push ((Keeps.refl NoBlock w2).alloc (.cells #[] 3)) (own_new w2.heap.size rfl) (ys := []) (fun b hb => by simp only [Value.ownBlock, Option.some.injEq] at hb; omega)
          have s2 := s1.push ((Keeps.refl NoBlock _).alloc (.cells #[] 3)) (own_new (w2.heap.size + 1) (by simp)) (ys := []) (fun b hb => by simp only [Value.ownBlock, Option.some.injEq] at hb; simp; omega)
          have s3 := s2.push ((Keeps.refl NoBlock _).alloc (.cells #[] 3)) (own_new (w2.heap.size + 2) (by simp)) (ys := []) (fun b hb => by simp only [Value.ownBlock, Option.some.injEq] at hb; simp; omega)
          rw [hW] at s3
          exact s3
        clear hW S2 x0 x1 Bx Hr4 Hr5
        go_wp2_with fail
        go_loopw [9, 10, 11, 12] (fun v9 v10 v11 v12 wr => ∃ (m : Nat) (ds : List Int) (lm : List Pr) (A9 : Option Addr) (c9 : Nat) (A10 : Option Addr) (c10 : Nat) (A11 : Option Addr) (c11 : Nat), v12 = .int .i64 m ∧ v9 = .slice A9 ds.length c9 ∧ v10 = .slice A10 lm.length c10 ∧ v11 = .slice A11 lm.length c11 ∧ TRel w d mb n j l A4 c4 A5 c5 m ds lm A9 c9 A10 c10 A11 c11 wr) (fun _ _ _ v12 _ => l.length - (intOf v12).toNat)
        case atStart => exact ⟨0, [], [], _, _, _, _, _, _, rfl, rfl, rfl, rfl, ⟨Nat.zero_le _, by simp, Nat.le_refl _, Nat.le_refl _, List.Pairwise.nil, fun y => Iff.rfl, S3.out⟩⟩
        case round =>
          obtain ⟨m, ds, lm, A9, c9, A10, c10, A11, c11, rfl, rfl, rfl, rfl, T⟩ := hrel
          have HT := Lib.hid T
          clear T S3
          by_cases hm : m < l.length
          · obtain ⟨p, hp⟩ : ∃ p, l[m]? = some p := ⟨_, List.getElem?_eq_getElem hm⟩
            have o4 : Own wr 3 1 (.slice A4 l.length c4) l.length ((whoL l).map (Value.int .i64)) := by have := HT.out.st.rows.own 0 _ _ rfl; rw [who_len] at this; exact this
            have o5 : Own wr 3 1 (.slice A5 l.length c5) l.length ((endL l).map (Value.int .i64)) := by have := HT.out.st.rows.own 1 _ _ rfl; rw [end_len] at this; exact this
            obtain ⟨g4, rfl⟩ := own_some o4 (by omega)
            obtain ⟨g5, rfl⟩ := own_some o5 (by omega)
            have cw : wr.cell? ⟨g4, m, none⟩ = some (.int .i64 p.1) := by
              rw [World.ownsRow.cellAt o4 m (by omega)]
              unfold whoL
              rw [List.getElem?_map, List.getElem?_map, hp]; rfl
            have ce : wr.cell? ⟨g5, m, none⟩ = some (.int .i64 p.2) := by
              rw [World.ownsRow.cellAt o5 m (by omega)]
              unfold endL
              rw [List.getElem?_map, List.getElem?_map, hp]; rfl
            have hm0 : (0 : Int) ≤ (m : Int) := by omega
            have hml : (m : Int) < (l.length : Int) := by omega
            have hwm : IntKind.i64.wrap ((m : Int) + 1) = (m : Int) + 1 := by rw [IntKind.wrap_i64]; omega
            have hlm := HT.out.ll
            have hdl := HT.out.dl
            obtain ⟨pw, pe⟩ := p
            simp only [] at cw ce
            have Hp := Lib.hid hp
            clear o4 o5 hp
            by_cases hlat : (j : Int) + 1 < pe
            · have ho10 : Own wr 3 1 (.slice A10 lm.length c10) lm.length ((whoL lm).map (Value.int .i64)) := by have := HT.out.st.rows.own 3 _ _ rfl; rw [who_len] at this; exact this
              have Ho10 := Lib.hid ho10
              have HCe := Lib.hid ce
              have H5n : Hid (∀ b, (Value.slice A10 lm.length c10).ownBlock = some b → b ≠ g5) := fun b hb e => by
                subst e
                exact absurd (HT.out.st.rows.sep 3 1 _ _ _ _ b rfl rfl hb rfl) (by decide)
              have lg5 := World.block_lt_of_cell? wr _ ce
              simp only [] at lg5
              clear ho10
              go_wp2_with (at_builtin; refine wpList_appN eI _ rfl _ _ rfl (.slice A10 lm.length c10) lm.length _ rfl (World.ownsRow.alloc Ho10.out _) ⟨wr.heap.size, 0, none⟩ 1 1 [.int .i64 pw] rfl rfl (newsB (e := 3) (block_alloc_new wr _)) ?_ ?_ ?_ ?_)
              · simp [Value.oneCell']
              · simp only [maxLen]; omega
              · omega
              rintro v4 w4 ho4 hg4 hf4 g10 e10 rfl
              have S4 : Hid (St w d mb n j (fL l) w4 [(.slice (some ⟨g4, 0, none⟩) l.length c4, whoL l), (.slice (some ⟨g5, 0, none⟩) l.length c5, endL l), (.slice A9 ds.length c9, ds), (.slice (some ⟨g10, 0, none⟩) (lm.length + 1) e10, whoL (lm ++ [(pw, pe)])), (.slice A11 lm.length c11, endL lm)]) := by
                have := HT.out.st.app (i := 3) (v' := .slice (some ⟨g10, 0, none⟩) (lm.length + 1) e10) (ys := whoL (lm ++ [(pw, pe)])) rfl ((Keeps.refl NoBlock wr).alloc _) hg4 (by
                  rw [who_len, List.length_append, List.length_singleton, show (whoL (lm ++ [(pw, pe)])).map (Value.int .i64) = (whoL lm).map (Value.int .i64) ++ [.int .i64 pw] from by unfold whoL; simp]
                  exact ho4) (fun b hb => by
                  rcases hf4 b hb with h | h
                  · exact .inl h
                  · exact .inr (by omega))
                exact this
              have ce4 : w4.cell? ⟨g5, m, none⟩ = some (.int .i64 pe) := by
                have k4 : Keeps (fun b => (Value.slice A10 lm.length c10).ownBlock = some b) wr w4 := (((Keeps.refl NoBlock wr).alloc _).mono (fun _ _ e => e.elim)).grown hg4 (fun _ e => .inl e)
                exact (k4.cell lg5 (fun e => H5n.out g5 e rfl)).trans HCe.out
              have ho11 : Own w4 3 1 (.slice A11 lm.length c11) lm.length ((endL lm).map (Value.int .i64)) := by have := S4.out.rows.own 4 _ _ rfl; rw [end_len] at this; exact this
              have Ho11 := Lib.hid ho11
              clear ho4 hg4 hf4 Ho10 ho11 cw ce lg5 HCe H5n
              go_wp2_with (at_builtin; refine wpList_appN eI _ rfl _ _ rfl (.slice A11 lm.length c11) lm.length _ rfl (World.ownsRow.alloc Ho11.out _) ⟨w4.heap.size, 0, none⟩ 1 1 [.int .i64 pe] rfl rfl (newsB (e := 3) (block_alloc_new w4 _)) ?_ ?_ ?_ ?_)
              · simp [Value.oneCell']
              · simp only [maxLen]; omega
              · omega
              rintro v5 w5 ho5 hg5 hf5 g11 e11 rfl
              have S5 : Hid (St w d mb n j (fL l) w5 [(.slice (some ⟨g4, 0, none⟩) l.length c4, whoL l), (.slice (some ⟨g5, 0, none⟩) l.length c5, endL l), (.slice A9 ds.length c9, ds), (.slice (some ⟨g10, 0, none⟩) (lm.length + 1) e10, whoL (lm ++ [(pw, pe)])), (.slice (some ⟨g11, 0, none⟩) (lm.length + 1) e11, endL (lm ++ [(pw, pe)]))]) := by
                have := S4.out.app (i := 4) (v' := .slice (some ⟨g11, 0, none⟩) (lm.length + 1) e11) (ys := endL (lm ++ [(pw, pe)])) rfl ((Keeps.refl NoBlock w4).alloc _) hg5 (by
                  rw [end_len, List.length_append, List.length_singleton, show (endL (lm ++ [(pw, pe)])).map (Value.int .i64) = (endL lm).map (Value.int .i64) ++ [.int .i64 pe] from by unfold endL; simp]
                  exact ho5) (fun b hb => by
                  rcases hf5 b hb with h | h
                  · exact .inl h
                  · exact .inr (by omega))
                exact this
              clear ho5 hg5 hf5 Ho11 S4 ce4
              go_wp2_with fail
              have hln : (lm ++ [(pw, pe)]).length = lm.length + 1 := by simp
              refine ⟨⟨m + 1, ds, lm ++ [(pw, pe)], A9, c9, some ⟨g10, 0, none⟩, e10, some ⟨g11, 0, none⟩, e11, by go_num, rfl, by rw [hln], by rw [hln], ⟨by omega, ?_, by omega, by rw [hln]; omega, HT.out.pw, fun y => ?_, ?_⟩⟩, by simp [intOf]; omega⟩
              · rw [take_filter _ Hp.out, if_pos (by unfold later; simp; omega), ← HT.out.lm_]
              · rw [due_no Hp.out hlat]
                exact HT.out.mem y
              · rw [hln]
                exact S5.out
            · have hcle : pe ≤ (j : Int) + 1 := by omega
              have Hlat := Lib.hid hlat
              clear hlat
              have Hcw := Lib.hid cw
              have lg4 := World.block_lt_of_cell? wr _ cw
              simp only [] at lg4
              obtain ⟨g9, hA9⟩ : ∃ g9, 0 < ds.length → A9 = some ⟨g9, 0, none⟩ := by
                by_cases h0 : 0 < ds.length
                · obtain ⟨g9, e⟩ := own_some (HT.out.st.rows.own 2 _ _ rfl) h0
                  exact ⟨g9, fun _ => e⟩
                · exact ⟨0, fun h => absurd h h0⟩
              have HA9 := Lib.hid hA9
              have hD9 : Hid (∀ a y, ds[a]? = some y → wr.cell? ⟨g9, a, none⟩ = some (.int .i64 y)) := fun a y hy => by
                have hal := (List.getElem?_eq_some_iff.1 hy).1
                have o9 := HT.out.st.rows.own 2 _ _ rfl
                rw [hA9 (by omega)] at o9
                rw [World.ownsRow.cellAt o9 a (by omega), List.getElem?_map, hy]; rfl
              clear hA9
              go_upto_region 18 with fail
              clear cw ce
              generalize wr = w3 at *
              go_wp2_with fail
              go_loopw [13] (fun v13 wq => ∃ a : Nat, a ≤ ds.length ∧ v13 = .int .i64 a ∧ (∀ t y, t < a → ds[t]? = some y → y < pw) ∧ Keeps NoBlock w3 wq) (fun v13 _ => ds.length - (intOf v13).toNat)
              case atStart => exact ⟨0, Nat.zero_le _, rfl, fun t y ht => absurd ht (by omega), Keeps.refl _ _⟩
              case round =>
                obtain ⟨a, ha, rfl, hlo, hka⟩ := hrel
                have Hlo := Lib.hid hlo
                clear hlo
                have cw := (hka.cell lg4 (fun e => e)).trans Hcw.out
                by_cases hal : a < ds.length
                · obtain ⟨y, hy⟩ : ∃ y, ds[a]? = some y := ⟨_, List.getElem?_eq_getElem hal⟩
                  have cy0 := hD9.out a y hy
                  have cy := (hka.cell (World.block_lt_of_cell? w3 _ cy0) (fun e => e)).trans cy0
                  obtain rfl := HA9.out (by omega)
                  have ha0 : (0 : Int) ≤ (a : Int) := by omega
                  have hal2 : (a : Int) < (ds.length : Int) := by omega
                  have g1 : decide ((a : Int) < (ds.length : Int)) = true := by simp; omega
                  have g1' : decide (a < ds.length) = true := by simp; omega
                  have hwa : IntKind.i64.wrap ((a : Int) + 1) = (a : Int) + 1 := by rw [IntKind.wrap_i64]; omega
                  have Hy := Lib.hid hy
                  clear cy0 hy
                  by_cases hyp : y < pw
                  · go_upto_region 19 with fail
                    go_quiet (fail)
                    go_wp2_with fail
                    refine ⟨⟨a + 1, by omega, by go_num, fun t z ht hz => ?_, hka.drewN _⟩, by simp [intOf]; omega⟩
                    by_cases e : t = a
                    · subst e
                      rw [Hy.out] at hz
                      cases hz
                      exact hyp
                    · exact Hlo.out t z (by omega) hz
                  · have g2 : decide (y < pw) = false := by simp; omega
                    go_upto_region 19 with fail
                    go_quiet (fail)
                    have hge : Hid (∀ z, ds[a]? = some z → ¬ z < pw) := fun z hz => by
                      rw [Hy.out] at hz
                      cases hz
                      exact hyp
                    clear cw cy ha0 hal2 g1 g1' g2
                    go_upto_region 21 with fail
                    generalize hW : World.drewN wr _ = w5
                    have k35 : Hid (Keeps NoBlock w3 w5) := by show Keeps _ _ _; rw [← hW]; exact hka.drewN _
                    have S5 : Hid (St w d mb n j (fL l) w5 [(.slice (some ⟨g4, 0, none⟩) l.length c4, whoL l), (.slice (some ⟨g5, 0, none⟩) l.length c5, endL l), (.slice (some (⟨g9, 0, none⟩ : Addr)) ds.length c9, ds), (.slice A10 lm.length c10, whoL lm), (.slice A11 lm.length c11, endL lm)]) := HT.out.st.keeps k35.out
                    clear hW
                    obtain ⟨T, hT⟩ : ∃ T, Hid (T = (ds.take a).map (Value.int .i64)) := ⟨_, rfl⟩
                    obtain ⟨U, hU⟩ : ∃ U, Hid (U = (ds.drop a).map (Value.int .i64)) := ⟨_, rfl⟩
                    have tl : Hid (T.length = a * 1) := by show _ = _; rw [hT.out, List.length_map, List.length_take]; omega
                    have ul : Hid (U.length = (ds.length - a) * 1) := by show _ = _; rw [hU.out, List.length_map, List.length_drop]; omega
                    have t1 : Hid (∀ u ∈ T, u.oneCell' = true) := fun u hu => by rw [hT.out] at hu; obtain ⟨x, _, rfl⟩ := List.mem_map.1 hu; rfl
                    have u1 : Hid (∀ u ∈ U, u.oneCell' = true) := fun u hu => by rw [hU.out] at hu; obtain ⟨x, _, rfl⟩ := List.mem_map.1 hu; rfl
                    have hD : Hid (∀ W, Keeps NoBlock w5 W → ∀ q y, ds[q]? = some y → W.cell? ⟨g9, q, none⟩ = some (.int .i64 y)) := fun W kW q y hy => by
                      have h3 := hD9.out q y hy
                      exact ((k35.out.trans kW (fun _ _ e => e)).cell (World.block_lt_of_cell? w3 _ h3) (fun e => e)).trans h3
                    have tc : Hid (∀ W, Keeps NoBlock w5 W → ∀ q u, T[q]? = some u → W.cell? ⟨g9, 0 + q, none⟩ = some u) := fun W kW q u hq => by
                      rw [hT.out, List.getElem?_map, Option.map_eq_some_iff] at hq
                      obtain ⟨y, hy, rfl⟩ := hq
                      rw [List.getElem?_take] at hy
                      split at hy
                      · rw [Nat.zero_add]; exact hD.out W kW q y hy
                      · cases hy
                    have uc : Hid (∀ W, Keeps NoBlock w5 W → ∀ q u, U[q]? = some u → W.cell? ⟨g9, 0 + a * 1 + q, none⟩ = some u) := fun W kW q u hq => by
                      rw [hU.out, List.getElem?_map, Option.map_eq_some_iff] at hq
                      obtain ⟨y, hy, rfl⟩ := hq
                      rw [List.getElem?_drop] at hy
                      rw [show 0 + a * 1 + q = a + q by omega]; exact hD.out W kW (a + q) y hy
                    have hcap : ds.length ≤ c9 := own_cap (S5.out.rows.own 2 _ _ rfl)
                    have hac : a ≤ c9 := by omega
                    have hs1 := run_slice_to eI (some (⟨g9, 0, none⟩ : Addr)) ds.length c9 a hac
                    obtain ⟨A2, hs2, hA2'⟩ := run_slice_from eI (some (⟨g9, 0, none⟩ : Addr)) ds.length c9 a g9 0 ha hcap HA9.out
                    have hA2 := Lib.hid hA2'
                    have hA9a : Hid (0 < a → (some (⟨g9, 0, none⟩ : Addr)) = some ⟨g9, 0, none⟩) := fun h => HA9.out (by omega)
                    have cw5 : w5.cell? ⟨g4, m, none⟩ = some (.int .i64 pw) := (k35.out.cell lg4 (fun e => e)).trans Hcw.out
                    have lg45 : g4 < w5.heap.size := by have := k35.out.size; omega
                    have hcw5 : Hid (∀ W, Keeps NoBlock w5 W → W.cell? ⟨g4, m, none⟩ = some (.int .i64 pw)) := fun W kW => (kW.cell lg45 (fun e => e)).trans cw5
                    clear hA2' hcap
                    go_region_held3 (fun w' => w'.cell? ⟨g4, m, none⟩ = some (.int .i64 pw)) (first | (refine hcw5.out _ ?_; repeat (first | with_reducible exact Keeps.refl _ _ | with_reducible exact K56 | with_reducible exact K57 | with_reducible exact K58 | with_reducible refine Keeps.alloc ?_ _ | with_reducible refine Keeps.drew ?_)))
                      (first
                      | (refine step_appX (P := Try.prog) eI ?_ (.tmp 86) (.tmp 89) ?_ (.slice (some ⟨w5.heap.size, 0, none⟩) 0 0) 0 [] ?_ ?_ (some (⟨g9, 0, none⟩ : Addr)) g9 0 a c9 T ?_ ?_ ?_ ?_ t1.out ?_ ?_ ?_
                         · rfl
                         · rfl
                         · simp [Act.eval]
                         · repeat (first | with_reducible exact own_new _ (by simp) | with_reducible refine World.ownsRow.alloc ?_ _ | with_reducible refine World.ownsRow.drew ?_)
                         · simp [Act.eval]
                         · exact hA9a.out
                         · exact tl.out
                         · refine tc.out _ ?_
                           repeat (first | with_reducible exact Keeps.refl _ _ | with_reducible exact K56 | with_reducible exact K57 | with_reducible exact K58 | with_reducible refine Keeps.alloc ?_ _ | with_reducible refine Keeps.drew ?_)
                         · simp only [maxLen]; omega
                         · omega
                         intro v6 w6 ho6 hg6 hf6 hs6
                         obtain ⟨A6, cap6, rfl⟩ := Own.isSlice ho6
                         have K56 : Keeps NoBlock w5 w6 := by
                           refine Keeps.grown ?_ hg6 ?_
                           · repeat (first | with_reducible exact Keeps.refl _ _ | with_reducible exact K56 | with_reducible exact K57 | with_reducible exact K58 | with_reducible refine Keeps.alloc ?_ _ | with_reducible refine Keeps.drew ?_)
                           · intro b hb
                             right
                             simp only [Value.ownBlock, Option.some.injEq] at hb
                             omega
                         have f6 : ∀ b, (Value.slice A6 (0 + a) cap6).ownBlock = some b → w5.heap.size ≤ b := fun b hb => by
                           rcases hf6 b hb with h | h
                           · simp only [Value.ownBlock, Option.some.injEq] at h
                             omega
                           · first
                             | omega
                             | (simp only [World.size_alloc] at h; omega)
                             | (simp only [World.size_drew] at h; omega)
                             | (simp only [World.size_alloc, World.size_drew] at h; omega)
                         have s6 := K56.size
                         clear hs6)
                      | (refine step_appX (P := Try.prog) eI ?_ (.tmp 86) (.tmp 89) ?_ (.slice (some ⟨w5.heap.size + 1, 0, none⟩) 0 0) 0 [] ?_ ?_ (some (⟨g9, 0, none⟩ : Addr)) g9 0 a c9 T ?_ ?_ ?_ ?_ t1.out ?_ ?_ ?_
                         · rfl
                         · rfl
                         · simp [Act.eval]
                         · repeat (first | with_reducible exact own_new _ (by simp) | with_reducible refine World.ownsRow.alloc ?_ _ | with_reducible refine World.ownsRow.drew ?_)
                         · simp [Act.eval]
                         · exact hA9a.out
                         · exact tl.out
                         · refine tc.out _ ?_
                           repeat (first | with_reducible exact Keeps.refl _ _ | with_reducible exact K56 | with_reducible exact K57 | with_reducible exact K58 | with_reducible refine Keeps.alloc ?_ _ | with_reducible refine Keeps.drew ?_)
                         · simp only [maxLen]; omega
                         · omega
                         intro v6 w6 ho6 hg6 hf6 hs6
                         obtain ⟨A6, cap6, rfl⟩ := Own.isSlice ho6
                         have K56 : Keeps NoBlock w5 w6 := by
                           refine Keeps.grown ?_ hg6 ?_
                           · repeat (first | with_reducible exact Keeps.refl _ _ | with_reducible exact K56 | with_reducible exact K57 | with_reducible exact K58 | with_reducible refine Keeps.alloc ?_ _ | with_reducible refine Keeps.drew ?_)
                           · intro b hb
                             right
                             simp only [Value.ownBlock, Option.some.injEq] at hb
                             omega
                         have f6 : ∀ b, (Value.slice A6 (0 + a) cap6).ownBlock = some b → w5.heap.size ≤ b := fun b hb => by
                           rcases hf6 b hb with h | h
                           · simp only [Value.ownBlock, Option.some.injEq] at h
                             omega
                           · first
                             | omega
                             | (simp only [World.size_alloc] at h; omega)
                             | (simp only [World.size_drew] at h; omega)
                             | (simp only [World.size_alloc, World.size_drew] at h; omega)
                         have s6 := K56.size
                         clear hs6)
                      | (refine step_app (P := Try.prog) eI ?_ (.tmp 90) (.tmp 95) ?_ (.slice A6 (0 + a) cap6) (0 + a) ([] ++ T) ?_ ?_ ⟨w6.heap.size, 0, none⟩ 1 1 [.int .i64 pw] ?_ ?_ (newsB (e := 3) ?_) ?_ ?_ ?_ ?_
                         · rfl
                         · rfl
                         · simp [Act.eval]
                         · repeat (first | with_reducible exact ho6 | with_reducible refine World.ownsRow.alloc ?_ _ | with_reducible refine World.ownsRow.drew ?_)
                         · simp [Act.eval]
                         · rfl
                         · repeat (first | (refine blk_new ?_; (simp; done)) | with_reducible refine block_alloc_old ?_ | with_reducible refine blk_drew ?_ | (refine blk_grown hg6 ?_ ?_; focus (simp [Value.ownBlock])))
                         · simp [Value.oneCell']
                         · simp only [maxLen]; omega
                         · omega
                         intro v7 w7 ho7 hg7 hf7 hs7
                         obtain ⟨A7, cap7, rfl⟩ := Own.isSlice ho7
                         have K57 : Keeps NoBlock w5 w7 := by
                           refine Keeps.grown ?_ hg7 (fun b hb => .inr (f6 b hb))
                           repeat (first | with_reducible exact Keeps.refl _ _ | with_reducible exact K56 | with_reducible exact K57 | with_reducible exact K58 | with_reducible refine Keeps.alloc ?_ _ | with_reducible refine Keeps.drew ?_)
                         have f7 : ∀ b, (Value.slice A7 (0 + a + 1) cap7).ownBlock = some b → w5.heap.size ≤ b := fun b hb => by
                           rcases hf7 b hb with h | h
                           · exact f6 b h
                           · first
                             | omega
                             | (simp only [World.size_alloc] at h; omega)
                             | (simp only [World.size_drew] at h; omega)
                             | (simp only [World.size_alloc, World.size_drew] at h; omega)
                         have s7 := K57.size
                         clear hs7)
                      | (refine step_app (P := Try.prog) eI ?_ (.tmp 90) (.tmp 95) ?_ (.slice A6 (0 + a) cap6) (0 + a) ([] ++ T) ?_ ?_ ⟨w5.heap.size + 1, 0, none⟩ 1 1 [.int .i64 pw] ?_ ?_ (newsB (e := 3) ?_) ?_ ?_ ?_ ?_
                         · rfl
                         · rfl
                         · simp [Act.eval]
                         · repeat (first | with_reducible exact ho6 | with_reducible refine World.ownsRow.alloc ?_ _ | with_reducible refine World.ownsRow.drew ?_)
                         · simp [Act.eval]
                         · rfl
                         · repeat (first | (refine blk_new ?_; (simp; done)) | with_reducible refine block_alloc_old ?_ | with_reducible refine blk_drew ?_ | (refine blk_grown hg6 ?_ ?_; focus (simp [Value.ownBlock])))
                         · simp [Value.oneCell']
                         · simp only [maxLen]; omega
                         · omega
                         intro v7 w7 ho7 hg7 hf7 hs7
                         obtain ⟨A7, cap7, rfl⟩ := Own.isSlice ho7
                         have K57 : Keeps NoBlock w5 w7 := by
                           refine Keeps.grown ?_ hg7 (fun b hb => .inr (f6 b hb))
                           repeat (first | with_reducible exact Keeps.refl _ _ | with_reducible exact K56 | with_reducible exact K57 | with_reducible exact K58 | with_reducible refine Keeps.alloc ?_ _ | with_reducible refine Keeps.drew ?_)
                         have f7 : ∀ b, (Value.slice A7 (0 + a + 1) cap7).ownBlock = some b → w5.heap.size ≤ b := fun b hb => by
                           rcases hf7 b hb with h | h
                           · exact f6 b h
                           · first
                             | omega
                             | (simp only [World.size_alloc] at h; omega)
                             | (simp only [World.size_drew] at h; omega)
                             | (simp only [World.size_alloc, World.size_drew] at h; omega)
                         have s7 := K57.size
                         clear hs7)
                      | (refine step_app (P := Try.prog) eI ?_ (.tmp 90) (.tmp 95) ?_ (.slice A6 (0 + a) cap6) (0 + a) ([] ++ T) ?_ ?_ ⟨w5.heap.size, 0, none⟩ 1 1 [.int .i64 pw] ?_ ?_ (newsB (e := 3) ?_) ?_ ?_ ?_ ?_
                         · rfl
                         · rfl
                         · simp [Act.eval]
                         · repeat (first | with_reducible exact ho6 | with_reducible refine World.ownsRow.alloc ?_ _ | with_reducible refine World.ownsRow.drew ?_)
                         · simp [Act.eval]
                         · rfl
                         · repeat (first | (refine blk_new ?_; (simp; done)) | with_reducible refine block_alloc_old ?_ | with_reducible refine blk_drew ?_ | (refine blk_grown hg6 ?_ ?_; focus (simp [Value.ownBlock])))
                         · simp [Value.oneCell']
                         · simp only [maxLen]; omega
                         · omega
                         intro v7 w7 ho7 hg7 hf7 hs7
                         obtain ⟨A7, cap7, rfl⟩ := Own.isSlice ho7
                         have K57 : Keeps NoBlock w5 w7 := by
                           refine Keeps.grown ?_ hg7 (fun b hb => .inr (f6 b hb))
                           repeat (first | with_reducible exact Keeps.refl _ _ | with_reducible exact K56 | with_reducible exact K57 | with_reducible exact K58 | with_reducible refine Keeps.alloc ?_ _ | with_reducible refine Keeps.drew ?_)
                         have f7 : ∀ b, (Value.slice A7 (0 + a + 1) cap7).ownBlock = some b → w5.heap.size ≤ b := fun b hb => by
                           rcases hf7 b hb with h | h
                           · exact f6 b h
                           · first
                             | omega
                             | (simp only [World.size_alloc] at h; omega)
                             | (simp only [World.size_drew] at h; omega)
                             | (simp only [World.size_alloc, World.size_drew] at h; omega)
                         have s7 := K57.size
                         clear hs7)
                      | (refine step_appX (P := Try.prog) eI ?_ (.tmp 96) (.tmp 99) ?_ (.slice A7 (0 + a + 1) cap7) (0 + a + 1) ([] ++ T ++ [.int .i64 pw]) ?_ ?_ A2 g9 (0 + a * 1) (ds.length - a) (c9 - a) U ?_ ?_ ?_ ?_ u1.out ?_ ?_ ?_
                         · rfl
                         · rfl
                         · simp [Act.eval]
                         · exact ho7
                         · simp [Act.eval]
                         · exact hA2.out
                         · exact ul.out
                         · refine uc.out _ ?_
                           repeat (first | with_reducible exact Keeps.refl _ _ | with_reducible exact K56 | with_reducible exact K57 | with_reducible exact K58 | with_reducible refine Keeps.alloc ?_ _ | with_reducible refine Keeps.drew ?_)
                         · simp only [maxLen]; omega
                         · omega
                         intro v8 w8 ho8 hg8 hf8 hs8
                         obtain ⟨A8, cap8, rfl⟩ := Own.isSlice ho8
                         have K58 : Keeps NoBlock w5 w8 := by
                           refine Keeps.grown ?_ hg8 (fun b hb => .inr (f7 b hb))
                           repeat (first | with_reducible exact Keeps.refl _ _ | with_reducible exact K56 | with_reducible exact K57 | with_reducible exact K58 | with_reducible refine Keeps.alloc ?_ _ | with_reducible refine Keeps.drew ?_)
                         have f8 : ∀ b, (Value.slice A8 (0 + a + 1 + (ds.length - a)) cap8).ownBlock = some b → w5.heap.size ≤ b := fun b hb => by
                           rcases hf8 b hb with h | h
                           · exact f7 b h
                           · omega
                         clear hs8)
                      | fail)
                    all_goals
                      have hyl : (ds.take a ++ [pw] ++ ds.drop a).length = 0 + a + 1 + (ds.length - a) := by simp; omega
                      have hyo : Own w8 3 1 (.slice A8 (0 + a + 1 + (ds.length - a)) cap8) (ds.take a ++ [pw] ++ ds.drop a).length ((ds.take a ++ [pw] ++ ds.drop a).map (Value.int .i64)) := by
                        have e : (ds.take a ++ [pw] ++ ds.drop a).map (Value.int .i64) = [] ++ T ++ [.int .i64 pw] ++ U := by rw [hT.out, hU.out]; simp
                        rw [hyl, e]
                        exact ho8
                      have HS8 := Lib.hid (S5.out.put (i := 2) rfl (K58.mono (fun _ _ e => e.elim)) hyo (fun b hb => .inr (f8 b hb)))
                      have Hin := Lib.hid (ins_ok HT.out.pw HT.out.mem (due_new HR.out.ok Hp.out) Hlo.out hge.out)
                      clear hyo ho8 hg8 hf8 f8 K58 ho7 hg7 hf7 f7 K57 s7 ho6 hg6 hf6 f6 K56 s6 cw5 lg45 hs1 hs2
                      go_wp2_with fail
                      refine ⟨⟨m + 1, ds.take a ++ [pw] ++ ds.drop a, lm, A8, cap8, A10, c10, A11, c11, by go_num, ?_, rfl, rfl, ⟨by omega, ?_, by rw [hyl]; omega, by omega, Hin.out.1, fun y => ?_, ?_⟩⟩, by simp [intOf]; omega⟩
                      · rw [hyl]
                        exact congrArg (fun t => Value.slice A8 t cap8) (by omega)
                      · rw [take_filter _ Hp.out, if_neg (by unfold later; simp; omega), List.append_nil]
                        exact HT.out.lm_
                      · rw [due_yes Hp.out (lim := (j : Int) + 1) (by have := Hlat.out; show ¬ _ < pe; omega)]
                        exact Hin.out.2 y
                      · rw [hyl]
                        exact HS8.out
                · have g1 : decide ((a : Int) < (ds.length : Int)) = false := by simp; omega
                  have g1' : decide (a < ds.length) = false := by simp; omega
                  go_upto_region 19 with fail
                  go_quiet (fail)
                  have hge : Hid (∀ z, ds[a]? = some z → ¬ z < pw) := fun z hz => absurd (List.getElem?_eq_some_iff.1 hz).1 hal
                  clear cw g1 g1'
                  go_upto_region 21 with fail
                  generalize hW : World.drewN wr _ = w5
                  have k35 : Hid (Keeps NoBlock w3 w5) := by show Keeps _ _ _; rw [← hW]; exact hka.drewN _
                  have S5 : Hid (St w d mb n j (fL l) w5 [(.slice (some ⟨g4, 0, none⟩) l.length c4, whoL l), (.slice (some ⟨g5, 0, none⟩) l.length c5, endL l), (.slice A9 ds.length c9, ds), (.slice A10 lm.length c10, whoL lm), (.slice A11 lm.length c11, endL lm)]) := HT.out.st.keeps k35.out
                  clear hW
                  obtain ⟨T, hT⟩ : ∃ T, Hid (T = (ds.take a).map (Value.int .i64)) := ⟨_, rfl⟩
                  obtain ⟨U, hU⟩ : ∃ U, Hid (U = (ds.drop a).map (Value.int .i64)) := ⟨_, rfl⟩
                  have tl : Hid (T.length = a * 1) := by show _ = _; rw [hT.out, List.length_map, List.length_take]; omega
                  have ul : Hid (U.length = (ds.length - a) * 1) := by show _ = _; rw [hU.out, List.length_map, List.length_drop]; omega
                  have t1 : Hid (∀ u ∈ T, u.oneCell' = true) := fun u hu => by rw [hT.out] at hu; obtain ⟨x, _, rfl⟩ := List.mem_map.1 hu; rfl
                  have u1 : Hid (∀ u ∈ U, u.oneCell' = true) := fun u hu => by rw [hU.out] at hu; obtain ⟨x, _, rfl⟩ := List.mem_map.1 hu; rfl
                  have hD : Hid (∀ W, Keeps NoBlock w5 W → ∀ q y, ds[q]? = some y → W.cell? ⟨g9, q, none⟩ = some (.int .i64 y)) := fun W kW q y hy => by
                    have h3 := hD9.out q y hy
                    exact ((k35.out.trans kW (fun _ _ e => e)).cell (World.block_lt_of_cell? w3 _ h3) (fun e => e)).trans h3
                  have tc : Hid (∀ W, Keeps NoBlock w5 W → ∀ q u, T[q]? = some u → W.cell? ⟨g9, 0 + q, none⟩ = some u) := fun W kW q u hq => by
                    rw [hT.out, List.getElem?_map, Option.map_eq_some_iff] at hq
                    obtain ⟨y, hy, rfl⟩ := hq
                    rw [List.getElem?_take] at hy
                    split at hy
                    · rw [Nat.zero_add]; exact hD.out W kW q y hy
                    · cases hy
                  have uc : Hid (∀ W, Keeps NoBlock w5 W → ∀ q u, U[q]? = some u → W.cell? ⟨g9, 0 + a * 1 + q, none⟩ = some u) := fun W kW q u hq => by
                    rw [hU.out, List.getElem?_map, Option.map_eq_some_iff] at hq
                    obtain ⟨y, hy, rfl⟩ := hq
                    rw [List.getElem?_drop] at hy
                    rw [show 0 + a * 1 + q = a + q by omega]; exact hD.out W kW (a + q) y hy
                  have hcap : ds.length ≤ c9 := own_cap (S5.out.rows.own 2 _ _ rfl)
                  have hac : a ≤ c9 := by omega
                  have hs1 := run_slice_to eI A9 ds.length c9 a hac
                  obtain ⟨A2, hs2, hA2'⟩ := run_slice_from eI A9 ds.length c9 a g9 0 ha hcap HA9.out
                  have hA2 := Lib.hid hA2'
                  have hA9a : Hid (0 < a → A9 = some ⟨g9, 0, none⟩) := fun h => HA9.out (by omega)
                  have cw5 : w5.cell? ⟨g4, m, none⟩ = some (.int .i64 pw) := (k35.out.cell lg4 (fun e => e)).trans Hcw.out
                  have lg45 : g4 < w5.heap.size := by have := k35.out.size; omega
                  have hcw5 : Hid (∀ W, Keeps NoBlock w5 W → W.cell? ⟨g4, m, none⟩ = some (.int .i64 pw)) := fun W kW => (kW.cell lg45 (fun e => e)).trans cw5
                  clear hA2' hcap
                  go_region_held3 (fun w' => w'.cell? ⟨g4, m, none⟩ = some (.int .i64 pw)) (first | (refine hcw5.out _ ?_; repeat (first | with_reducible exact Keeps.refl _ _ | with_reducible exact K56 | with_reducible exact K57 | with_reducible exact K58 | with_reducible refine Keeps.alloc ?_ _ | with_reducible refine Keeps.drew ?_)))
                    (first
                    | (refine step_appX (P := Try.prog) eI ?_ (.tmp 86) (.tmp 89) ?_ (.slice (some ⟨w5.heap.size, 0, none⟩) 0 0) 0 [] ?_ ?_ A9 g9 0 a c9 T ?_ ?_ ?_ ?_ t1.out ?_ ?_ ?_
                       · rfl
                       · rfl
                       · simp [Act.eval]
                       · repeat (first | with_reducible exact own_new _ (by simp) | with_reducible refine World.ownsRow.alloc ?_ _ | with_reducible refine World.ownsRow.drew ?_)
                       · simp [Act.eval]
                       · exact hA9a.out
                       · exact tl.out
                       · refine tc.out _ ?_
                         repeat (first | with_reducible exact Keeps.refl _ _ | with_reducible exact K56 | with_reducible exact K57 | with_reducible exact K58 | with_reducible refine Keeps.alloc ?_ _ | with_reducible refine Keeps.drew ?_)
                       · simp only [maxLen]; omega
                       · omega
                       intro v6 w6 ho6 hg6 hf6 hs6
                       obtain ⟨A6, cap6, rfl⟩ := Own.isSlice ho6
                       have K56 : Keeps NoBlock w5 w6 := by
                         refine Keeps.grown ?_ hg6 ?_
                         · repeat (first | with_reducible exact Keeps.refl _ _ | with_reducible exact K56 | with_reducible exact K57 | with_reducible exact K58 | with_reducible refine Keeps.alloc ?_ _ | with_reducible refine Keeps.drew ?_)
                         · intro b hb
                           right
                           simp only [Value.ownBlock, Option.some.injEq] at hb
                           omega
                       have f6 : ∀ b, (Value.slice A6 (0 + a) cap6).ownBlock = some b → w5.heap.size ≤ b := fun b hb => by
                         rcases hf6 b hb with h | h
                         · simp only [Value.ownBlock, Option.some.injEq] at h
                           omega
                         · first
                           | omega
                           | (simp only [World.size_alloc] at h; omega)
                           | (simp only [World.size_drew] at h; omega)
                           | (simp only [World.size_alloc, World.size_drew] at h; omega)
                       have s6 := K56.size
                       clear hs6)
                    | (refine step_appX (P := Try.prog) eI ?_ (.tmp 86) (.tmp 89) ?_ (.slice (some ⟨w5.heap.size + 1, 0, none⟩) 0 0) 0 [] ?_ ?_ A9 g9 0 a c9 T ?_ ?_ ?_ ?_ t1.out ?_ ?_ ?_
                       · rfl
                       · rfl
                       · simp [Act.eval]
                       · repeat (first | with_reducible exact own_new _ (by simp) | with_reducible refine World.ownsRow.alloc ?_ _ | with_reducible refine World.ownsRow.drew ?_)
                       · simp [Act.eval]
                       · exact hA9a.out
                       · exact tl.out
                       · refine tc.out _ ?_
                         repeat (first | with_reducible exact Keeps.refl _ _ | with_reducible exact K56 | with_reducible exact K57 | with_reducible exact K58 | with_reducible refine Keeps.alloc ?_ _ | with_reducible refine Keeps.drew ?_)
                       · simp only [maxLen]; omega
                       · omega
                       intro v6 w6 ho6 hg6 hf6 hs6
                       obtain ⟨A6, cap6, rfl⟩ := Own.isSlice ho6
                       have K56 : Keeps NoBlock w5 w6 := by
                         refine Keeps.grown ?_ hg6 ?_
                         · repeat (first | with_reducible exact Keeps.refl _ _ | with_reducible exact K56 | with_reducible exact K57 | with_reducible exact K58 | with_reducible refine Keeps.alloc ?_ _ | with_reducible refine Keeps.drew ?_)
                         · intro b hb
                           right
                           simp only [Value.ownBlock, Option.some.injEq] at hb
                           omega
                       have f6 : ∀ b, (Value.slice A6 (0 + a) cap6).ownBlock = some b → w5.heap.size ≤ b := fun b hb => by
                         rcases hf6 b hb with h | h
                         · simp only [Value.ownBlock, Option.some.injEq] at h
                           omega
                         · first
                           | omega
                           | (simp only [World.size_alloc] at h; omega)
                           | (simp only [World.size_drew] at h; omega)
                           | (simp only [World.size_alloc, World.size_drew] at h; omega)
                       have s6 := K56.size
                       clear hs6)
                    | (refine step_app (P := Try.prog) eI ?_ (.tmp 90) (.tmp 95) ?_ (.slice A6 (0 + a) cap6) (0 + a) ([] ++ T) ?_ ?_ ⟨w6.heap.size, 0, none⟩ 1 1 [.int .i64 pw] ?_ ?_ (newsB (e := 3) ?_) ?_ ?_ ?_ ?_
                       · rfl
                       · rfl
                       · simp [Act.eval]
                       · repeat (first | with_reducible exact ho6 | with_reducible refine World.ownsRow.alloc ?_ _ | with_reducible refine World.ownsRow.drew ?_)
                       · simp [Act.eval]
                       · rfl
                       · repeat (first | (refine blk_new ?_; (simp; done)) | with_reducible refine block_alloc_old ?_ | with_reducible refine blk_drew ?_ | (refine blk_grown hg6 ?_ ?_; focus (simp [Value.ownBlock])))
                       · simp [Value.oneCell']
                       · simp only [maxLen]; omega
                       · omega
                       intro v7 w7 ho7 hg7 hf7 hs7
                       obtain ⟨A7, cap7, rfl⟩ := Own.isSlice ho7
                       have K57 : Keeps NoBlock w5 w7 := by
                         refine Keeps.grown ?_ hg7 (fun b hb => .inr (f6 b hb))
                         repeat (first | with_reducible exact Keeps.refl _ _ | with_reducible exact K56 | with_reducible exact K57 | with_reducible exact K58 | with_reducible refine Keeps.alloc ?_ _ | with_reducible refine Keeps.drew ?_)
                       have f7 : ∀ b, (Value.slice A7 (0 + a + 1) cap7).ownBlock = some b → w5.heap.size ≤ b := fun b hb => by
                         rcases hf7 b hb with h | h
                         · exact f6 b h
                         · first
                           | omega
                           | (simp only [World.size_alloc] at h; omega)
                           | (simp only [World.size_drew] at h; omega)
                           | (simp only [World.size_alloc, World.size_drew] at h; omega)
                       have s7 := K57.size
                       clear hs7)
                    | (refine step_app (P := Try.prog) eI ?_ (.tmp 90) (.tmp 95) ?_ (.slice A6 (0 + a) cap6) (0 + a) ([] ++ T) ?_ ?_ ⟨w5.heap.size + 1, 0, none⟩ 1 1 [.int .i64 pw] ?_ ?_ (newsB (e := 3) ?_) ?_ ?_ ?_ ?_
                       · rfl
                       · rfl
                       · simp [Act.eval]
                       · repeat (first | with_reducible exact ho6 | with_reducible refine World.ownsRow.alloc ?_ _ | with_reducible refine World.ownsRow.drew ?_)
                       · simp [Act.eval]
                       · rfl
                       · repeat (first | (refine blk_new ?_; (simp; done)) | with_reducible refine block_alloc_old ?_ | with_reducible refine blk_drew ?_ | (refine blk_grown hg6 ?_ ?_; focus (simp [Value.ownBlock])))
                       · simp [Value.oneCell']
                       · simp only [maxLen]; omega
                       · omega
                       intro v7 w7 ho7 hg7 hf7 hs7
                       obtain ⟨A7, cap7, rfl⟩ := Own.isSlice ho7
                       have K57 : Keeps NoBlock w5 w7 := by
                         refine Keeps.grown ?_ hg7 (fun b hb => .inr (f6 b hb))
                         repeat (first | with_reducible exact Keeps.refl _ _ | with_reducible exact K56 | with_reducible exact K57 | with_reducible exact K58 | with_reducible refine Keeps.alloc ?_ _ | with_reducible refine Keeps.drew ?_)
                       have f7 : ∀ b, (Value.slice A7 (0 + a + 1) cap7).ownBlock = some b → w5.heap.size ≤ b := fun b hb => by
                         rcases hf7 b hb with h | h
                         · exact f6 b h
                         · first
                           | omega
                           | (simp only [World.size_alloc] at h; omega)
                           | (simp only [World.size_drew] at h; omega)
                           | (simp only [World.size_alloc, World.size_drew] at h; omega)
                       have s7 := K57.size
                       clear hs7)
                    | (refine step_app (P := Try.prog) eI ?_ (.tmp 90) (.tmp 95) ?_ (.slice A6 (0 + a) cap6) (0 + a) ([] ++ T) ?_ ?_ ⟨w5.heap.size, 0, none⟩ 1 1 [.int .i64 pw] ?_ ?_ (newsB (e := 3) ?_) ?_ ?_ ?_ ?_
                       · rfl
                       · rfl
                       · simp [Act.eval]
                       · repeat (first | with_reducible exact ho6 | with_reducible refine World.ownsRow.alloc ?_ _ | with_reducible refine World.ownsRow.drew ?_)
                       · simp [Act.eval]
                       · rfl
                       · repeat (first | (refine blk_new ?_; (simp; done)) | with_reducible refine block_alloc_old ?_ | with_reducible refine blk_drew ?_ | (refine blk_grown hg6 ?_ ?_; focus (simp [Value.ownBlock])))
                       · simp [Value.oneCell']
                       · simp only [maxLen]; omega
                       · omega
                       intro v7 w7 ho7 hg7 hf7 hs7
                       obtain ⟨A7, cap7, rfl⟩ := Own.isSlice ho7
                       have K57 : Keeps NoBlock w5 w7 := by
                         refine Keeps.grown ?_ hg7 (fun b hb => .inr (f6 b hb))
                         repeat (first | with_reducible exact Keeps.refl _ _ | with_reducible exact K56 | with_reducible exact K57 | with_reducible exact K58 | with_reducible refine Keeps.alloc ?_ _ | with_reducible refine Keeps.drew ?_)
                       have f7 : ∀ b, (Value.slice A7 (0 + a + 1) cap7).ownBlock = some b → w5.heap.size ≤ b := fun b hb => by
                         rcases hf7 b hb with h | h
                         · exact f6 b h
                         · first
                           | omega
                           | (simp only [World.size_alloc] at h; omega)
                           | (simp only [World.size_drew] at h; omega)
                           | (simp only [World.size_alloc, World.size_drew] at h; omega)
                       have s7 := K57.size
                       clear hs7)
                    | (refine step_appX (P := Try.prog) eI ?_ (.tmp 96) (.tmp 99) ?_ (.slice A7 (0 + a + 1) cap7) (0 + a + 1) ([] ++ T ++ [.int .i64 pw]) ?_ ?_ A2 g9 (0 + a * 1) (ds.length - a) (c9 - a) U ?_ ?_ ?_ ?_ u1.out ?_ ?_ ?_
                       · rfl
                       · rfl
                       · simp [Act.eval]
                       · exact ho7
                       · simp [Act.eval]
                       · exact hA2.out
                       · exact ul.out
                       · refine uc.out _ ?_
                         repeat (first | with_reducible exact Keeps.refl _ _ | with_reducible exact K56 | with_reducible exact K57 | with_reducible exact K58 | with_reducible refine Keeps.alloc ?_ _ | with_reducible refine Keeps.drew ?_)
                       · simp only [maxLen]; omega
                       · omega
                       intro v8 w8 ho8 hg8 hf8 hs8
                       obtain ⟨A8, cap8, rfl⟩ := Own.isSlice ho8
                       have K58 : Keeps NoBlock w5 w8 := by
                         refine Keeps.grown ?_ hg8 (fun b hb => .inr (f7 b hb))
                         repeat (first | with_reducible exact Keeps.refl _ _ | with_reducible exact K56 | with_reducible exact K57 | with_reducible exact K58 | with_reducible refine Keeps.alloc ?_ _ | with_reducible refine Keeps.drew ?_)
                       have f8 : ∀ b, (Value.slice A8 (0 + a + 1 + (ds.length - a)) cap8).ownBlock = some b → w5.heap.size ≤ b := fun b hb => by
                         rcases hf8 b hb with h | h
                         · exact f7 b h
                         · omega
                       clear hs8)
                    | fail)
                  all_goals
                    have hyl : (ds.take a ++ [pw] ++ ds.drop a).length = 0 + a + 1 + (ds.length - a) := by simp; omega
                    have hyo : Own w8 3 1 (.slice A8 (0 + a + 1 + (ds.length - a)) cap8) (ds.take a ++ [pw] ++ ds.drop a).length ((ds.take a ++ [pw] ++ ds.drop a).map (Value.int .i64)) := by
                      have e : (ds.take a ++ [pw] ++ ds.drop a).map (Value.int .i64) = [] ++ T ++ [.int .i64 pw] ++ U := by rw [hT.out, hU.out]; simp
                      rw [hyl, e]
                      exact ho8
                    have HS8 := Lib.hid (S5.out.put (i := 2) rfl (K58.mono (fun _ _ e => e.elim)) hyo (fun b hb => .inr (f8 b hb)))
                    have Hin := Lib.hid (ins_ok HT.out.pw HT.out.mem (due_new HR.out.ok Hp.out) Hlo.out hge.out)
                    clear hyo ho8 hg8 hf8 f8 K58 ho7 hg7 hf7 f7 K57 s7 ho6 hg6 hf6 f6 K56 s6 cw5 lg45 hs1 hs2
                    go_wp2_with fail
                    refine ⟨⟨m + 1, ds.take a ++ [pw] ++ ds.drop a, lm, A8, cap8, A10, c10, A11, c11, by go_num, ?_, rfl, rfl, ⟨by omega, ?_, by rw [hyl]; omega, by omega, Hin.out.1, fun y => ?_, ?_⟩⟩, by simp [intOf]; omega⟩
                    · rw [hyl]
                      exact congrArg (fun t => Value.slice A8 t cap8) (by omega)
                    · rw [take_filter _ Hp.out, if_neg (by unfold later; simp; omega), List.append_nil]
                      exact HT.out.lm_
                    · rw [due_yes Hp.out (lim := (j : Int) + 1) (by have := Hlat.out; show ¬ _ < pe; omega)]
                      exact Hin.out.2 y
                    · rw [hyl]
                      exact HS8.out
          · have hml : m = l.length := by have := HT.out.m1; omega
            subst hml
            go_wp2_with fail
            refine (tick_calls HT.out.st.wl.wh (by omega) (lim := (j : Int) + 1) (by omega)).mono ?_
            rintro e w4 ⟨A, c, ks, rfl, ho4, hp4, hm4, hf4, hw4, k4, hl4⟩
            have S4 : Hid (St w d mb n ((j + 1 : Nat) : Int) (fL lm) w4 [(.slice A4 l.length c4, whoL l), (.slice A5 l.length c5, endL l), (.slice A9 ds.length c9, ds), (.slice A10 lm.length c10, whoL lm), (.slice A11 lm.length c11, endL lm)]) := by
              have h1 := HT.out.st.wheel hw4 k4
              have h2 := HT.out.lm_
              rw [List.take_length] at h2
              rw [fL_left HR.out.ok ((j : Int) + 1) (by omega), ← h2] at h1
              rw [show ((j + 1 : Nat) : Int) = (j : Int) + 1 from by omega]
              exact h1
            have hks : ks = ds := lt_ext hp4 HT.out.pw (fun y => by
              rw [hm4, fL_due HR.out.ok, HT.out.mem, List.take_length])
            subst hks
            have Rk : Hid (ReadsI .i64 w4 (.slice A ks.length c) ks) := Own.readsI ho4
            have hkl : ks.length ≤ 100 := by have := HT.out.dl; omega
            have hlm := HT.out.ll
            have hlok : Hid (OkL lm) := by
              have := HR.out.ok.filter (later ((j : Int) + 1))
              have h2 := HT.out.lm_
              rw [List.take_length] at h2
              rw [← h2] at this
              exact this
            clear ho4 hp4 hm4 hf4 hw4 k4 hl4 HT
            go_wp2_with fail
            refine (ints_calls _ _ ks ks _ Rk.out (S4.out.reads (i := 2) rfl) (by omega) (by omega)).mono ?_
            rintro e w5 ⟨rfl, k5⟩
            rw [decide_eq_true rfl]
            have S5 := Lib.hid (S4.out.keeps k5)
            clear k5 S4 Rk
            go_wp2_with fail
            refine (now_calls S5.out.wl.wh).mono ?_
            rintro e w6 ⟨rfl, rfl⟩
            rw [show ((j + 1 : Nat) : Int) = (j : Int) + 1 from by omega]
            go_wp2_with fail
            exact ⟨⟨k + 1, j + 1, lm, A10, c10, A11, c11, by go_num, by go_num, rfl, rfl, ⟨by omega, by omega, by have := HR.out.jk; omega, by have := HR.out.lk; omega, hlok.out, n, by omega, S5.out.pick (fun i => i + 3) (fun i q hi => by
              match i, hi with
              | 0, hi => exact hi
              | 1, hi => exact hi) (fun a b e => by omega)⟩⟩, by simp [intOf]; omega⟩
      · by_cases hbad : num < 1 ∨ 1099511627776 < num
        · rcases hbad with hb | hb
          · go_wp2_with fail
            refine (sleep_bad d who num _ (.inl hb)).mono ?_
            rintro e w9 ⟨rfl, rfl⟩
            go_wp2_with fail
            refine (waiting_calls S2.out.wl.wh who Hw.out).mono ?_
            rintro e w9 ⟨rfl, rfl⟩
            rw [hok.out]
            go_wp2_with fail
            refine (in_calls _ _ who _ (S2.out.reads (i := 0) rfl) (by rw [who_len]; omega)).mono ?_
            rintro e w9 ⟨rfl, rfl⟩
            rw [any_who]
            generalize decide (who ∈ whoL l) = bo
            have hbo : (bo == bo) = true := by simp
            go_wp2_with fail
            exact ⟨⟨k + 1, j, l, A4, c4, A5, c5, by go_num, rfl, rfl, rfl, hsame.out _ S2.out⟩, by simp [intOf]; omega⟩
          · have hb1 : (1 : Int) ≤ num := by omega
            go_wp2_with fail
            refine (sleep_bad d who num _ (.inr hb)).mono ?_
            rintro e w9 ⟨rfl, rfl⟩
            go_wp2_with fail
            refine (waiting_calls S2.out.wl.wh who Hw.out).mono ?_
            rintro e w9 ⟨rfl, rfl⟩
            rw [hok.out]
            go_wp2_with fail
            refine (in_calls _ _ who _ (S2.out.reads (i := 0) rfl) (by rw [who_len]; omega)).mono ?_
            rintro e w9 ⟨rfl, rfl⟩
            rw [any_who]
            generalize decide (who ∈ whoL l) = bo
            have hbo : (bo == bo) = true := by simp
            go_wp2_with fail
            exact ⟨⟨k + 1, j, l, A4, c4, A5, c5, by go_num, rfl, rfl, rfl, hsame.out _ S2.out⟩, by simp [intOf]; omega⟩
        · have hb1 : (1 : Int) ≤ num := by omega
          have hb2 : num ≤ 1099511627776 := by omega
          clear hbad
          by_cases hin : who ∈ whoL l
          · go_wp2_with fail
            refine (in_calls _ _ who _ (S2.out.reads (i := 0) rfl) (by rw [who_len]; omega)).mono ?_
            rintro e w9 ⟨rfl, rfl⟩
            rw [any_who, decide_eq_true hin]
            go_wp2_with fail
            refine (sleep_busy S2.out.wl.wh who num Hw.out hb1 hb2 ((fL_ne HR.out.ok who).2 hin)).mono ?_
            rintro e w9 ⟨rfl, rfl⟩
            clear hin
            go_wp2_with fail
            refine (waiting_calls S2.out.wl.wh who Hw.out).mono ?_
            rintro e w9 ⟨rfl, rfl⟩
            rw [hok.out]
            go_wp2_with fail
            refine (in_calls _ _ who _ (S2.out.reads (i := 0) rfl) (by rw [who_len]; omega)).mono ?_
            rintro e w9 ⟨rfl, rfl⟩
            rw [any_who]
            generalize decide (who ∈ whoL l) = bo
            have hbo : (bo == bo) = true := by simp
            go_wp2_with fail
            exact ⟨⟨k + 1, j, l, A4, c4, A5, c5, by go_num, rfl, rfl, rfl, hsame.out _ S2.out⟩, by simp [intOf]; omega⟩
          · have hwj : IntKind.i64.wrap ((j : Int) + num) = (j : Int) + num := by rw [IntKind.wrap_i64]; omega
            by_cases hgt : 1099511627776 < (j : Int) + num
            · clear hok
              have hU : Hid (min ((j : Int) + num) 1099511627776 = 1099511627776) := by show _ = _; omega
              have hU1 : Hid ((1 : Int) ≤ 1099511627776) := by show (1 : Int) ≤ _; omega
              go_wp2_with fail
              refine (in_calls _ _ who _ (S2.out.reads (i := 0) rfl) (by rw [who_len]; omega)).mono ?_
              rintro e w9 ⟨rfl, rfl⟩
              rw [any_who, decide_eq_false hin]
              go_wp2_with fail
              refine (sleep_ok S2.out.wl.wh who num Hw.out (by omega) (by omega) (fL_off hin) (by omega)).mono ?_
              rintro e w3 ⟨rfl, hw3, k3⟩
              have S3 : Hid (St w d mb (n + 1) j (fL (l ++ [(who, 1099511627776)])) w3 [(.slice A4 l.length c4, whoL l), (.slice A5 l.length c5, endL l)]) := by
                have := S2.out.wheel hw3 (k3.mono (fun _ _ e => .inr e))
                rw [hU.out, ← fL_add hin] at this
                exact this
              have Bx3 : Hid (w3.heap[gx]? = some (.cells #[.int .i64 who, .int .i64 num] 56 (0, 0))) := by
                show _ = _
                rw [k3.block _ (lt_of_block Bx.out) hxm.out]
                exact Bx.out
              clear hw3 k3 x0 x1
              have y0 : w3.cell? ⟨gx, 0, none⟩ = some (.int .i64 who) := cell_of_block (o := 0) Bx3.out rfl
              have y1 : w3.cell? ⟨gx, 1, none⟩ = some (.int .i64 num) := cell_of_block (o := 1) Bx3.out rfl
              have ly := lt_of_block Bx3.out
              have ho4 : Own w3 3 1 (.slice A4 l.length c4) l.length ((whoL l).map (Value.int .i64)) := by have := S3.out.rows.own 0 _ _ rfl; rw [who_len] at this; exact this
              have Ho4 := Lib.hid ho4
              clear ho4
              go_wp2_with (at_builtin; refine wpList_appN eI _ rfl _ _ rfl (.slice A4 l.length c4) l.length _ rfl (World.ownsRow.alloc Ho4.out _) ⟨w3.heap.size, 0, none⟩ 1 1 [.int .i64 who] rfl rfl (newsB (e := 3) (block_alloc_new w3 _)) ?_ ?_ ?_ ?_)
              · simp [Value.oneCell']
              · simp only [maxLen]; omega
              · omega
              rintro v4 w4 ho4 hg4 hf4 g4 e4 rfl
              have S4 : Hid (St w d mb (n + 1) j (fL (l ++ [(who, 1099511627776)])) w4 [(.slice (some ⟨g4, 0, none⟩) (l.length + 1) e4, whoL (l ++ [(who, 1099511627776)])), (.slice A5 l.length c5, endL l)]) := by
                have := S3.out.app (i := 0) (v' := .slice (some ⟨g4, 0, none⟩) (l.length + 1) e4) (ys := whoL (l ++ [(who, 1099511627776)])) rfl ((Keeps.refl NoBlock w3).alloc _) hg4 (by
                  rw [who_len, List.length_append, List.length_singleton, show (whoL (l ++ [(who, 1099511627776)])).map (Value.int .i64) = (whoL l).map (Value.int .i64) ++ [.int .i64 who] from by unfold whoL; simp]
                  exact ho4) (fun b hb => by
                  rcases hf4 b hb with h | h
                  · exact .inl h
                  · exact .inr (by omega))
                exact this
              have Bx4 : Hid (w4.heap[gx]? = some (.cells #[.int .i64 who, .int .i64 num] 56 (0, 0))) := blk_grown hg4 (fun e => by have := Hr4.out _ e; omega) (block_alloc_old Bx3.out)
              clear ho4 hg4 hf4 Ho4
              have ho5 : Own w4 3 1 (.slice A5 l.length c5) l.length ((endL l).map (Value.int .i64)) := by have := S4.out.rows.own 1 _ _ rfl; rw [end_len] at this; exact this
              have Ho5 := Lib.hid ho5
              clear ho5 y0 y1 ly
              go_wp2_with (at_builtin; refine wpList_appN eI _ rfl _ _ rfl (.slice A5 l.length c5) l.length _ rfl (World.ownsRow.alloc Ho5.out _) ⟨w4.heap.size, 0, none⟩ 1 1 [.int .i64 (1099511627776)] rfl rfl (newsB (e := 3) (block_alloc_new w4 _)) ?_ ?_ ?_ ?_)
              · simp [Value.oneCell']
              · simp only [maxLen]; omega
              · omega
              rintro v5 w5 ho5 hg5 hf5 g5 e5 rfl
              have S5 : Hid (St w d mb (n + 1) j (fL (l ++ [(who, 1099511627776)])) w5 [(.slice (some ⟨g4, 0, none⟩) (l.length + 1) e4, whoL (l ++ [(who, 1099511627776)])), (.slice (some ⟨g5, 0, none⟩) (l.length + 1) e5, endL (l ++ [(who, 1099511627776)]))]) := by
                have := S4.out.app (i := 1) (v' := .slice (some ⟨g5, 0, none⟩) (l.length + 1) e5) (ys := endL (l ++ [(who, 1099511627776)])) rfl ((Keeps.refl NoBlock w4).alloc _) hg5 (by
                  rw [end_len, List.length_append, List.length_singleton, show (endL (l ++ [(who, 1099511627776)])).map (Value.int .i64) = (endL l).map (Value.int .i64) ++ [.int .i64 (1099511627776)] from by unfold endL; simp]
                  exact ho5) (fun b hb => by
                  rcases hf5 b hb with h | h
                  · exact .inl h
                  · exact .inr (by omega))
                exact this
              have Bx5 : Hid (w5.heap[gx]? = some (.cells #[.int .i64 who, .int .i64 num] 56 (0, 0))) := blk_grown hg5 (fun e => by have := Hr5.out _ e; omega) (block_alloc_old Bx4.out)
              clear ho5 hg5 hf5 Ho5 S3 S4 Bx3 Bx4
              have z0 : w5.cell? ⟨gx, 0, none⟩ = some (.int .i64 who) := cell_of_block (o := 0) Bx5.out rfl
              have hfw : Hid (fL (l ++ [(who, 1099511627776)]) who = 1099511627776) := by show _ = _; rw [fL_add hin]; exact if_pos rfl
              have hin2 : Hid (who ∈ whoL (l ++ [(who, 1099511627776)])) := by show _ ∈ _; unfold whoL; simp
              have hnz : Hid ((!decide (1099511627776 = (0 : Int))) = true) := by show _ = _; rw [decide_eq_false (by have := hU1.out; omega)]; rfl
              have cU : w5.cell? ⟨g5, l.length, none⟩ = some (.int .i64 (1099511627776)) := by
                have h5 := S5.out.rows.own 1 _ _ rfl
                rw [end_len, List.length_append, List.length_singleton] at h5
                rw [World.ownsRow.cellAt h5 l.length (by omega)]
                unfold endL
                rw [List.map_append, List.map_append, List.getElem?_append_right (by simp)]
                simp
              have hws : IntKind.i64.wrap ((l.length : Int) + 1 - 1) = (l.length : Int) := by rw [IntKind.wrap_i64]; omega
              have hi0 : (0 : Int) ≤ (l.length : Int) := by omega
              have hi1 : (l.length : Int) < (l.length : Int) + 1 := by omega
              have hUU : ((1099511627776 : Int) != 1099511627776) = false := by simp
              have HIN := Lib.hid hin
              clear hin
              go_wp2_with fail
              refine (waiting_calls S5.out.wl.wh who Hw.out).mono ?_
              rintro e w9 ⟨rfl, rfl⟩
              rw [hfw.out, hnz.out]
              go_wp2_with fail
              refine (in_calls _ _ who _ (S5.out.reads (i := 0) rfl) (by rw [who_len]; simp; omega)).mono ?_
              rintro e w9 ⟨rfl, rfl⟩
              rw [any_who, decide_eq_true hin2.out]
              go_wp2_with fail
              have hln : (l ++ [(who, 1099511627776)]).length = l.length + 1 := by simp
              refine ⟨⟨k + 1, j, l ++ [(who, 1099511627776)], some ⟨g4, 0, none⟩, e4, some ⟨g5, 0, none⟩, e5, by go_num, rfl, by rw [hln], by rw [hln], ⟨by omega, by omega, by have := HR.out.jk; omega, by rw [hln]; have := HR.out.lk; omega, HR.out.ok.add HIN.out hU1.out Hw.out, n + 1, by omega, ?_⟩⟩, by simp [intOf]; omega⟩
              rw [hln]
              exact S5.out
            · have hle : (j : Int) + num ≤ 1099511627776 := by omega
              clear hgt
              have hU : Hid (min ((j : Int) + num) 1099511627776 = (j : Int) + num) := by show _ = _; omega
              have hU1 : Hid ((1 : Int) ≤ (j : Int) + num) := by show (1 : Int) ≤ _; omega
              go_wp2_with fail
              refine (in_calls _ _ who _ (S2.out.reads (i := 0) rfl) (by rw [who_len]; omega)).mono ?_
              rintro e w9 ⟨rfl, rfl⟩
              rw [any_who, decide_eq_false hin]
              go_wp2_with fail
              refine (sleep_ok S2.out.wl.wh who num Hw.out (by omega) (by omega) (fL_off hin) (by omega)).mono ?_
              rintro e w3 ⟨rfl, hw3, k3⟩
              have S3 : Hid (St w d mb (n + 1) j (fL (l ++ [(who, (j : Int) + num)])) w3 [(.slice A4 l.length c4, whoL l), (.slice A5 l.length c5, endL l)]) := by
                have := S2.out.wheel hw3 (k3.mono (fun _ _ e => .inr e))
                rw [hU.out, ← fL_add hin] at this
                exact this
              have Bx3 : Hid (w3.heap[gx]? = some (.cells #[.int .i64 who, .int .i64 num] 56 (0, 0))) := by
                show _ = _
                rw [k3.block _ (lt_of_block Bx.out) hxm.out]
                exact Bx.out
              clear hw3 k3 x0 x1
              have y0 : w3.cell? ⟨gx, 0, none⟩ = some (.int .i64 who) := cell_of_block (o := 0) Bx3.out rfl
              have y1 : w3.cell? ⟨gx, 1, none⟩ = some (.int .i64 num) := cell_of_block (o := 1) Bx3.out rfl
              have ly := lt_of_block Bx3.out
              have ho4 : Own w3 3 1 (.slice A4 l.length c4) l.length ((whoL l).map (Value.int .i64)) := by have := S3.out.rows.own 0 _ _ rfl; rw [who_len] at this; exact this
              have Ho4 := Lib.hid ho4
              clear ho4
              go_wp2_with (at_builtin; refine wpList_appN eI _ rfl _ _ rfl (.slice A4 l.length c4) l.length _ rfl (World.ownsRow.alloc Ho4.out _) ⟨w3.heap.size, 0, none⟩ 1 1 [.int .i64 who] rfl rfl (newsB (e := 3) (block_alloc_new w3 _)) ?_ ?_ ?_ ?_)
              · simp [Value.oneCell']
              · simp only [maxLen]; omega
              · omega
              rintro v4 w4 ho4 hg4 hf4 g4 e4 rfl
              have S4 : Hid (St w d mb (n + 1) j (fL (l ++ [(who, (j : Int) + num)])) w4 [(.slice (some ⟨g4, 0, none⟩) (l.length + 1) e4, whoL (l ++ [(who, (j : Int) + num)])), (.slice A5 l.length c5, endL l)]) := by
                have := S3.out.app (i := 0) (v' := .slice (some ⟨g4, 0, none⟩) (l.length + 1) e4) (ys := whoL (l ++ [(who, (j : Int) + num)])) rfl ((Keeps.refl NoBlock w3).alloc _) hg4 (by
                  rw [who_len, List.length_append, List.length_singleton, show (whoL (l ++ [(who, (j : Int) + num)])).map (Value.int .i64) = (whoL l).map (Value.int .i64) ++ [.int .i64 who] from by unfold whoL; simp]
                  exact ho4) (fun b hb => by
                  rcases hf4 b hb with h | h
                  · exact .inl h
                  · exact .inr (by omega))
                exact this
              have Bx4 : Hid (w4.heap[gx]? = some (.cells #[.int .i64 who, .int .i64 num] 56 (0, 0))) := blk_grown hg4 (fun e => by have := Hr4.out _ e; omega) (block_alloc_old Bx3.out)
              clear ho4 hg4 hf4 Ho4
              have ho5 : Own w4 3 1 (.slice A5 l.length c5) l.length ((endL l).map (Value.int .i64)) := by have := S4.out.rows.own 1 _ _ rfl; rw [end_len] at this; exact this
              have Ho5 := Lib.hid ho5
              clear ho5 y0 y1 ly
              go_wp2_with (at_builtin; refine wpList_appN eI _ rfl _ _ rfl (.slice A5 l.length c5) l.length _ rfl (World.ownsRow.alloc Ho5.out _) ⟨w4.heap.size, 0, none⟩ 1 1 [.int .i64 ((j : Int) + num)] rfl rfl (newsB (e := 3) (block_alloc_new w4 _)) ?_ ?_ ?_ ?_)
              · simp [Value.oneCell']
              · simp only [maxLen]; omega
              · omega
              rintro v5 w5 ho5 hg5 hf5 g5 e5 rfl
              have S5 : Hid (St w d mb (n + 1) j (fL (l ++ [(who, (j : Int) + num)])) w5 [(.slice (some ⟨g4, 0, none⟩) (l.length + 1) e4, whoL (l ++ [(who, (j : Int) + num)])), (.slice (some ⟨g5, 0, none⟩) (l.length + 1) e5, endL (l ++ [(who, (j : Int) + num)]))]) := by
                have := S4.out.app (i := 1) (v' := .slice (some ⟨g5, 0, none⟩) (l.length + 1) e5) (ys := endL (l ++ [(who, (j : Int) + num)])) rfl ((Keeps.refl NoBlock w4).alloc _) hg5 (by
                  rw [end_len, List.length_append, List.length_singleton, show (endL (l ++ [(who, (j : Int) + num)])).map (Value.int .i64) = (endL l).map (Value.int .i64) ++ [.int .i64 ((j : Int) + num)] from by unfold endL; simp]
                  exact ho5) (fun b hb => by
                  rcases hf5 b hb with h | h
                  · exact .inl h
                  · exact .inr (by omega))
                exact this
              have Bx5 : Hid (w5.heap[gx]? = some (.cells #[.int .i64 who, .int .i64 num] 56 (0, 0))) := blk_grown hg5 (fun e => by have := Hr5.out _ e; omega) (block_alloc_old Bx4.out)
              clear ho5 hg5 hf5 Ho5 S3 S4 Bx3 Bx4
              have z0 : w5.cell? ⟨gx, 0, none⟩ = some (.int .i64 who) := cell_of_block (o := 0) Bx5.out rfl
              have hfw : Hid (fL (l ++ [(who, (j : Int) + num)]) who = (j : Int) + num) := by show _ = _; rw [fL_add hin]; exact if_pos rfl
              have hin2 : Hid (who ∈ whoL (l ++ [(who, (j : Int) + num)])) := by show _ ∈ _; unfold whoL; simp
              have hnz : Hid ((!decide ((j : Int) + num = (0 : Int))) = true) := by show _ = _; rw [decide_eq_false (by have := hU1.out; omega)]; rfl
              have cU : w5.cell? ⟨g5, l.length, none⟩ = some (.int .i64 ((j : Int) + num)) := by
                have h5 := S5.out.rows.own 1 _ _ rfl
                rw [end_len, List.length_append, List.length_singleton] at h5
                rw [World.ownsRow.cellAt h5 l.length (by omega)]
                unfold endL
                rw [List.map_append, List.map_append, List.getElem?_append_right (by simp)]
                simp
              have hws : IntKind.i64.wrap ((l.length : Int) + 1 - 1) = (l.length : Int) := by rw [IntKind.wrap_i64]; omega
              have hi0 : (0 : Int) ≤ (l.length : Int) := by omega
              have hi1 : (l.length : Int) < (l.length : Int) + 1 := by omega
              have hUU : (((j : Int) + num : Int) != (j : Int) + num) = false := by simp
              have HIN := Lib.hid hin
              clear hin
              go_wp2_with fail
              refine (waiting_calls S5.out.wl.wh who Hw.out).mono ?_
              rintro e w9 ⟨rfl, rfl⟩
              rw [hfw.out, hnz.out]
              go_wp2_with fail
              refine (in_calls _ _ who _ (S5.out.reads (i := 0) rfl) (by rw [who_len]; simp; omega)).mono ?_
              rintro e w9 ⟨rfl, rfl⟩
              rw [any_who, decide_eq_true hin2.out]
              go_wp2_with fail
              have hln : (l ++ [(who, (j : Int) + num)]).length = l.length + 1 := by simp
              refine ⟨⟨k + 1, j, l ++ [(who, (j : Int) + num)], some ⟨g4, 0, none⟩, e4, some ⟨g5, 0, none⟩, e5, by go_num, rfl, by rw [hln], by rw [hln], ⟨by omega, by omega, by have := HR.out.jk; omega, by rw [hln]; have := HR.out.lk; omega, HR.out.ok.add HIN.out hU1.out Hw.out, n + 1, by omega, ?_⟩⟩, by simp [intOf]; omega⟩
              rw [hln]
              exact S5.out
    · have HK := Lib.hid HR.out.st
      by_cases hlk : k < len
      · have hk1 : (k : Int) < (len : Int) := by omega
        have hk2 : (100 : Int) ≤ (k : Int) := by omega
        go_wp2_with fail
        refine (awake06_calls _).mono ?_
        rintro e w6 ⟨rfl, k6⟩
        go_wp2_with fail
        go_ret
        obtain ⟨n, _, S⟩ := HK.out
        exact ⟨rfl, (S.wl.kp.trans k6 (fun _ _ e => e)).below (Nat.le_refl _) (fun _ e => e.elim)⟩
      · have hk1 : (len : Int) ≤ (k : Int) := by omega
        go_wp2_with fail
        refine (awake06_calls _).mono ?_
        rintro e w6 ⟨rfl, k6⟩
        go_wp2_with fail
        go_ret
        obtain ⟨n, _, S⟩ := HK.out
        exact ⟨rfl, (S.wl.kp.trans k6 (fun _ _ e => e)).below (Nat.le_refl _) (fun _ e => e.elim)⟩

theorem plays_row (w : World) (v : Value) (l : List Act) (h : ActsAt w v l) : Calls Try.prog 9 #[v] w fun e w' => e = .returned (.bool true) ∧ Below w.heap.size w w' := by
  obtain ⟨⟨A, b, off, cap, rfl, hA, hc⟩, hl⟩ := h
  exact plays_calls A b off l.length cap l rfl w hA hc hl

end Wh
end Go.Proofs.Ytlnoejmckpimnaa
