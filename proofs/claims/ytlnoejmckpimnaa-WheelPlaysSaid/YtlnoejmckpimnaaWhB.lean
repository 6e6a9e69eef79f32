/- Package wheel: Tick. -/
import Derived.Test.YtlnoejmckpimnaaWhA
import Derived.Test.YtlnoejmckpimnaaWhS
import Derived.Test.YtlnoejmckpimnaaLst
namespace Go.Proofs.Ytlnoejmckpimnaa
open Go.RowKit Go.Maps
namespace Wh

theorem eI : Elem Try.prog 23 3 (.int .i64 0) 1 8 := Elem.mk' (by kernel_rfl) (by kernel_rfl) rfl (by decide)

theorem same_key (k x : Int) : (key k).sameKey (key x) = decide (k = x) := by
  by_cases h : k = x
  · subst h
    rw [WideAt.sameKey_self (show WideAt.IsKeyLit (key k) from trivial)]; simp
  · rw [sameKey_ne (key_ne h)]; simp [h]

/-- Who was collected so far: those that are no longer to come, and are due. -/
structure Coll (f : Int → Int) (lim : Int) (D : DU) (left : Lit → Bool) (ks : List Int) : Prop where
  mem : ∀ k, k ∈ ks ↔ (Maps.has D (key k) = true ∧ left (key k) = false ∧ f k ≤ lim)
  nd : ks.Nodup
  wf : ∀ x ∈ ks, Wf x

theorem Coll.start (f : Int → Int) (lim : Int) (D : DU) : Coll f lim D (Maps.has D) [] :=
  ⟨fun k => ⟨fun h => by simp at h, fun h => by rw [h.1] at h; exact absurd h.2.1 (by simp)⟩, List.nodup_nil, fun _ h => by simp at h⟩

theorem has_of_at {D : DU} {k : Lit} {c : Int} (hat : ∀ zd, D.atKey k zd = num c) : Maps.has D k = true := by
  cases h : Maps.has D k with
  | true => rfl
  | false =>
    have h1 := hat (num (c + 1))
    rw [atKey_of_not_has h] at h1
    injection h1 with h1
    injection h1 with h1
    omega

theorem at_is {D : DU} {f : Int → Int} (hr : Rep D f) {x c : Int} (hat : ∀ zd, D.atKey (key x) zd = num c) : f x = c := by
  have h1 := hat (num 0)
  rw [hr.at_] at h1
  injection h1 with h1
  injection h1

theorem Coll.take_in {f : Int → Int} {lim : Int} {D : DU} {left : Lit → Bool} {ks : List Int} (h : Coll f lim D left ks) {x : Int} (hl : left (key x) = true) (hh : Maps.has D (key x) = true) (hx : f x ≤ lim) (hw : Wf x) :
    Coll f lim D (fun z => left z && !z.sameKey (key x)) (ks ++ [x]) := by
  have hnot : x ∉ ks := fun e => by have := ((h.mem x).1 e).2.1; rw [hl] at this; cases this
  refine ⟨fun k => ?_, ?_, fun y hy => ?_⟩
  · rw [List.mem_append, List.mem_singleton, h.mem, same_key]
    by_cases e : k = x
    · subst e; simp [hh, hx]
    · simp [e]
  · rw [List.nodup_append]
    exact ⟨h.nd, by simp, fun a ha b hb e => by rw [List.mem_singleton] at hb; subst hb; subst e; exact hnot ha⟩
  · rw [List.mem_append, List.mem_singleton] at hy
    rcases hy with hy | rfl
    · exact h.wf y hy
    · exact hw

theorem Coll.pass {f : Int → Int} {lim : Int} {D : DU} {left : Lit → Bool} {ks : List Int} (h : Coll f lim D left ks) {x : Int} (hx : ¬ f x ≤ lim) : Coll f lim D (fun z => left z && !z.sameKey (key x)) ks := by
  refine ⟨fun k => ?_, h.nd, h.wf⟩
  rw [h.mem, same_key]
  by_cases e : k = x
  · subst e; simp [hx]
  · simp [e]

/-- The row that Tick collects. -/
structure Out (w2 wr : World) (r : Nat) (v : Value) (ks : List Int) : Prop where
  own : Own wr 3 1 v ks.length (ks.map (Value.int .i64))
  fresh : ∀ b, v.ownBlock = some b → w2.heap.size ≤ b
  kp : Keeps (fun b => b = r) w2 wr

def TickPost (w : World) (d mb N : Nat) (lim : Int) (f : Int → Int) (e : Ending) (w' : World) : Prop :=
  ∃ (A : Option Addr) (c : Nat) (ks : List Int), e = .returned (.slice A ks.length c) ∧ Own w' 3 1 (.slice A ks.length c) ks.length (ks.map (Value.int .i64)) ∧ ks.Pairwise (· < ·) ∧ (∀ k, k ∈ ks ↔ (f k ≠ 0 ∧ f k ≤ lim)) ∧ (∀ b, (Value.slice A ks.length c).ownBlock = some b → w.heap.size ≤ b) ∧
    WhAt w' d mb N lim (fun k => if f k ≤ lim then 0 else f k) ∧ Keeps (fun b => b = d ∨ b = mb) w w' ∧ ks.length ≤ N

theorem own_some {w : World} {e : TypeId} {s : Nat} {A : Option Addr} {n c : Nat} {xs : List Value} (h : Own w e s (.slice A n c) n xs) (hn : 0 < n) : ∃ g, A = some ⟨g, 0, none⟩ := by
  rcases Own.form h with ⟨_, h0⟩ | ⟨g, cap, hv, _⟩
  · omega
  · injection hv with h1
    exact ⟨g, h1⟩

theorem own1_keeps {w w' : World} {mb n : Nat} {D : DU} {S : Nat → Prop} (h : Own1 w mb n D) (k : Keeps S w w') (hn : ¬ S mb) : Own1 w' mb n D := by
  obtain ⟨es, c, hb, rest⟩ := h
  exact ⟨es, c, (k.block _ (lt_of_block hb) hn).trans hb, rest⟩

/-- Behind the first loop: sort, and strike all from the map. -/
theorem del_fun {f : Int → Int} {lim : Int} {ks : List Int} (hm : ∀ k, k ∈ ks ↔ (f k ≠ 0 ∧ f k ≤ lim)) : (fun x => if x ∈ ks then 0 else f x) = fun x => if f x ≤ lim then 0 else f x := by
  funext x
  by_cases h : f x ≤ lim
  · rw [if_pos h]
    by_cases h0 : f x = 0
    · by_cases hx : x ∈ ks
      · rw [if_pos hx]
      · rw [if_neg hx]; exact h0
    · rw [if_pos ((hm x).2 ⟨h0, h⟩)]
  · rw [if_neg h, if_neg (fun hx => h ((hm x).1 hx).2)]

theorem strike_fun {f : Int → Int} {ks : List Int} {k : Nat} {x : Int} (hx : ks[k]? = some x) : (fun y => if y = x then 0 else if y ∈ ks.take k then 0 else f y) = fun y => if y ∈ ks.take (k + 1) then 0 else f y := by
  funext y
  rw [List.take_add_one, hx]
  simp only [Option.toList_some, List.mem_append, List.mem_singleton]
  by_cases h : y = x
  · simp [h]
  · simp [h]

set_option maxRecDepth 100000 in
set_option maxHeartbeats 2000000 in
theorem tick_calls {w : World} {d mb N : Nat} {now lim : Int} {f : Int → Int} (h : WhAt w d mb N now f) (hN : N ≤ 1000) (hlim : min (now + 1) 1099511627776 = lim) : Calls Try.prog 21 #[.pointer (some ⟨d, 0, none⟩)] w (TickPost w d mb N lim f) := by
  obtain ⟨D, hown, hrep⟩ := h.own
  have c0 : w.cell? ⟨d, 0, none⟩ = some (.int .i64 now) := cell_of_block (o := 0) h.head rfl
  have c1 : w.cell? ⟨d, 1, none⟩ = some (.map (some mb)) := cell_of_block (o := 1) h.head rfl
  have f0 := frozen_of_block h.head (o := 0)
  have hn0 := h.now0
  have hn1 := h.now1
  have hwr : IntKind.i64.wrap (now + 1) = now + 1 := by rw [IntKind.wrap_i64]; omega
  have H := Lib.hid h
  have hl0 : 0 ≤ lim := by omega
  have hl1 : lim ≤ 1099511627776 := by omega
  have Hl0 := Lib.hid hl0
  have Hl1 := Lib.hid hl1
  have Hlim := Lib.hid hlim
  have Hrep := Lib.hid hrep
  have Hown := Lib.hid hown
  clear hrep h hown hlim hn0 hn1 hl0 hl1
  go_enter Try.func21, Try.ntmps21
  go_upto_region 5 with fail
  rw [Hlim.out]
  generalize hW : World.setCell w _ _ = w1
  have Hd1 : Hid (w1.heap[d]? = some (.cells #[.int .i64 lim, .map (some mb)] 79 (0, 0))) := by
    show _ = _
    rw [← hW]
    exact block_set H.out.head _
  have K1 : Hid (Keeps (fun b => b = d) w w1) := by
    show Keeps _ _ _
    rw [← hW]
    exact Keeps.set (S := fun b => b = d) (Keeps.refl _ w) (.inl rfl) _
  have hown1 : w1.ownsMap Try.prog 3 (plainElem Try.prog 3) mb N D := by
    rw [← hW]
    exact Hown.out.setCell (by exact Ne.symm H.out.ne) _
  have hsz := hown1.size_le
  have Hsz := Lib.hid hsz
  clear hW c0 c1 f0 hwr Hown hsz
  have e1 : w1.cell? ⟨d, 1, none⟩ = some (.map (some mb)) := cell_of_block (o := 1) Hd1.out rfl
  go_wp2_with (first
    | (at_range; refine wpList_range_own _ rfl _ 77 rfl 3 3 lawI underM _ mb N D rfl hown1 ?_; intro w2 hrg2 hg2 hs2)
    | fail)
  go_frame
  have Hd2 : Hid (w2.heap[d]? = some (.cells #[.int .i64 lim, .map (some mb)] 79 (0, 0))) := by
    show _ = _
    rw [hg2.block d (lt_of_block Hd1.out) (by simp)]
    exact Hd1.out
  have K2 : Hid (Keeps (fun b => b = d) w w2) := K1.out.grown hg2 (fun k hk => by cases hk)
  obtain ⟨r, hr⟩ : ∃ r, w1.heap.size = r := ⟨_, rfl⟩
  rw [hr] at hrg2 hs2 ⊢
  have Hdr : Hid (d ≠ r) := by show d ≠ r; have := lt_of_block Hd1.out; omega
  have Hrm : Hid (r ≠ mb) := hrg2.ne
  have Hr2 : Hid (r < w2.heap.size) := hrg2.lt
  have Hrw : Hid (w.heap.size ≤ r) := by show _ ≤ r; rw [← hr]; exact K1.out.size
  have Hm2 : Hid (mb < w2.heap.size) := hrg2.owns.lt
  clear hg2 hs2 Hd1 K1 hown1 e1 hr
  go_loopw [3] (fun v wr => ∃ (left : Lit → Bool) (cnt : Nat) (ks : List Int), wr.ranges Try.prog 3 (plainElem Try.prog 3) mb r N D left cnt ∧ Out w2 wr r v ks ∧ Coll f lim D left ks ∧ ks.length + cnt ≤ N) (fun _ wr => wr.rangeLeft mb r)
  case atStart => exact ⟨_, _, [], hrg2, ⟨World.ownsRow_nil _ _ _ _, fun b hb => by simp [Value.ownBlock] at hb, Keeps.refl _ _⟩, Coll.start f lim D, by have := Hsz.out; simpa using this⟩
  case round =>
    clear hrg2
    obtain ⟨left, cnt, ks, hrg, hO, hC, hcnt⟩ := hrel
    have HO := Lib.hid hO
    have HC := Lib.hid hC
    clear hO hC
    go_wp2_with (first
      | (at_next; refine wpList_next_ranges_ii _ rfl _ rfl 3 3 .i64 .i64 lawI underI underI mb r N _ _ _ rfl hrg ?_ ?_)
      | fail)
    · intro hc0 hleft
      have hO := HO.out
      obtain ⟨A, cc, rfl⟩ := hO.own.isSlice
      have hmem : Hid (∀ k, k ∈ sorted ks ↔ (f k ≠ 0 ∧ f k ≤ lim)) := by
        intro k
        rw [sorted_mem, HC.out.mem, hleft, Hrep.out.has]
        simp
      have hown3 := Lib.hid hrg.owns
      have hl : ks.length ≤ N := by omega
      have Hl := Lib.hid hl
      clear hrg hcnt hc0 hleft hO
      go_wp2_with fail
      refine (sort_calls HO.out.own (by omega)).mono ?_
      rintro e w4 ⟨rfl, ho4, k4⟩
      have hwf : Hid (∀ x ∈ sorted ks, Wf x) := fun x hx => HC.out.wf x ((sorted_mem ks x).1 hx)
      have hpw : Hid ((sorted ks).Pairwise (· < ·)) := sorted_lt HC.out.nd
      have hsl : Hid ((sorted ks).length = ks.length) := sorted_len ks
      have hfr : Hid (∀ b, (Value.slice A ks.length cc).ownBlock = some b → w2.heap.size ≤ b) := HO.out.fresh
      have Kr : Hid (Keeps (fun b => b = r) w2 wr) := HO.out.kp
      have hm4 : Hid (Own1 w4 mb N D) := own1_keeps hown3.out k4 (fun e => by have := hfr.out _ e; have := Hm2.out; omega)
      have hd4 : Hid (w4.heap[d]? = some (.cells #[.int .i64 lim, .map (some mb)] 79 (0, 0))) := by
        show _ = _
        have h3 := (Kr.out.block _ (lt_of_block Hd2.out) (fun e => Hdr.out e)).trans Hd2.out
        exact (k4.block _ (lt_of_block h3) (fun e => by have := hfr.out _ e; have := lt_of_block Hd2.out; omega)).trans h3
      have K4 : Hid (Keeps (fun b => b = d) w w4) := by
        show Keeps _ _ _
        refine (K2.out.trans Kr.out (fun j hj e => ?_)).trans k4 (fun j hj e => ?_)
        · have := Hrw.out; omega
        · have := hfr.out _ e; have := K2.out.size; omega
      have Ho4 := Lib.hid ho4
      clear HO HC hown3 k4 Kr ho4
      generalize sorted ks = ss at *
      have hgm : Hid (∀ g, A = some ⟨g, 0, none⟩ → g ≠ mb) := fun g e e2 => by
        have := hfr.out g (by rw [e]; rfl)
        have := Hm2.out
        omega
      go_wp2_with fail
      go_loopw [43] (fun i wq => ∃ k : Nat, k ≤ ks.length ∧ i = .int .i64 k ∧ (∃ D', wq.ownsMap Try.prog 3 (plainElem Try.prog 3) mb N D' ∧ Rep D' (fun x => if x ∈ ss.take k then 0 else f x)) ∧ Keeps (fun b => b = mb) w4 wq) (fun i _ => ks.length - (intOf i).toNat)
      case atStart => exact ⟨0, Nat.zero_le _, rfl, ⟨D, hm4.out, by simpa using Hrep.out⟩, Keeps.refl _ _⟩
      case round =>
        obtain ⟨k, hk, rfl, ⟨D', hown5, hrep5⟩, hkp⟩ := hrel
        by_cases hlt : k < ks.length
        · obtain ⟨g, rfl⟩ := own_some Ho4.out (by omega)
          obtain ⟨x, hx⟩ : ∃ x, ss[k]? = some x := ⟨_, List.getElem?_eq_getElem (by rw [hsl.out]; exact hlt)⟩
          have cx : w4.cell? ⟨g, k, none⟩ = some (.int .i64 x) := by rw [World.ownsRow.cellAt Ho4.out k (by omega), List.getElem?_map, hx]; rfl
          have c5 := (hkp.cell (World.block_lt_of_cell? w4 _ cx) (fun e => hgm.out g rfl e)).trans cx
          have d5 := (hkp.cell (lt_of_block hd4.out) (fun e => H.out.ne e)).trans (cell_of_block (o := 1) hd4.out rfl)
          have hk0 : (0 : Int) ≤ (k : Int) := by omega
          have hkl : (k : Int) < (ks.length : Int) := by omega
          have hwx := hwf.out x (List.mem_of_getElem? hx)
          have hdel : Hid (Rep (D'.del (key x)) (fun x => if x ∈ ss.take (k + 1) then 0 else f x)) := by
            have := hrep5.del x
            rw [strike_fun hx] at this
            exact this
          clear cx hx hrep5
          go_wp2_with (first
            | (at_delete; refine wpList_delete_own _ rfl _ _ 77 3 rfl 3 lawI underM _ mb N _ rfl hown5 _ _ rfl (keyOf_int_mk underI hwx) ?_; intro w6 hown6 hturn6)
            | fail)
          exact ⟨⟨k + 1, by omega, by go_num, ⟨_, hown6, hdel.out⟩, hkp.trans (keeps_turned hturn6) (fun _ _ h => h)⟩, by simp [intOf]; omega⟩
        · obtain rfl : k = ks.length := by omega
          have hrep6 : Hid (Rep D' (fun k => if f k ≤ lim then 0 else f k)) := by
            have := hrep5
            rw [← hsl.out, List.take_length, del_fun hmem.out] at this
            exact this
          have Hkp := Lib.hid hkp
          have Hown5 := Lib.hid hown5
          clear hrep5 hkp hown5
          go_wp2_with fail
          go_ret
          refine ⟨A, cc, ss, ?_, ?_, hpw.out, hmem.out, ?_, ⟨?_, ⟨D', Hown5.out, hrep6.out⟩, H.out.ne, Hl0.out, Hl1.out, fun k => ?_⟩, ?_, ?_⟩
          · rw [hsl.out]; rfl
          · rw [hsl.out]
            exact Ho4.out.keeps Hkp.out (fun b hb e => by
              have := hfr.out b hb
              have := Hm2.out
              omega)
          · intro b hb
            rw [hsl.out] at hb
            have := hfr.out b hb
            have := K2.out.size
            omega
          · exact (Hkp.out.block _ (lt_of_block hd4.out) (fun e => H.out.ne e)).trans hd4.out
          · show (if f k ≤ lim then 0 else f k) = 0 ∨ 1 ≤ (if f k ≤ lim then 0 else f k)
            split
            · exact .inl rfl
            · exact H.out.lo k
          · exact (K4.out.mono (fun _ _ e => .inl e)).trans Hkp.out (fun _ _ e => .inr e)
          · rw [hsl.out]; exact Hl.out
    · intro x c w3 cnt1 hwx hwc hlx hat hrg3 hlt hg3 hs3 hen
      have Hs3 := Lib.hid hs3
      clear hs3
      have hc : f x = c := at_is Hrep.out hat
      have hh := has_of_at hat
      have hO := HO.out
      obtain ⟨A, cc, rfl⟩ := hO.own.isSlice
      have k23 : Keeps (fun b => b = r) w2 w3 := HO.out.kp.trans (keeps_grown hg3) (fun _ _ h => h)
      have d0 : w3.cell? ⟨d, 0, none⟩ = some (.int .i64 lim) := (k23.cell (lt_of_block Hd2.out) (fun e => Hdr.out e)).trans (cell_of_block (o := 0) Hd2.out rfl)
      have ho3 : Own w3 3 1 (.slice A ks.length cc) ks.length (ks.map (Value.int .i64)) := hO.own.keeps (keeps_grown hg3) (fun b hb e => by have := hO.fresh b hb; have := Hr2.out; omega)
      have Ho3 := Lib.hid ho3
      have hl : ks.length ≤ N := by omega
      by_cases hle : c ≤ lim
      · have HC' := Lib.hid (HC.out.take_in hlx hh (by rw [hc]; exact hle) hwx)
        clear hlx hh hat hO
        go_wp2_with (at_builtin; refine wpList_appN eI _ rfl _ _ rfl (.slice A ks.length cc) ks.length _ rfl (World.ownsRow.alloc Ho3.out _) ⟨w3.heap.size, 0, none⟩ 1 1 [.int .i64 x] rfl rfl (newsB (e := 3) (block_alloc_new w3 _)) ?_ ?_ ?_ ?_)
        · simp [Value.oneCell']
        · simp only [maxLen]; omega
        · omega
        rintro v4 w4 ho4 hg4 hf4 g c4 rfl
        have hrow : ∀ b, (Value.slice A ks.length cc).ownBlock = some b → w2.heap.size ≤ b := HO.out.fresh
        have hrg4 := (hrg3.alloc (.cells #[.int .i64 x] 3)).kept hg4 (fun e => by have := hrow _ e.symm; have := Hm2.out; omega) (fun e => by have := hrow _ e.symm; have := Hr2.out; omega)
        have hO4 : Out w2 w4 r (.slice (some ⟨g, 0, none⟩) (ks.length + 1) c4) (ks ++ [x]) := by
          refine ⟨?_, fun b hb => ?_, (k23.alloc _).grown hg4 (fun k hk => .inr (hrow k hk))⟩
          · rw [List.length_append, List.map_append]
            exact ho4
          · rcases hf4 b hb with h | h
            · exact hrow b h
            · have := k23.size; omega
        have Hg := Lib.hid hrg4
        have Ho := Lib.hid hO4
        have Hw := Lib.hid hrg
        clear hrg4 hO4 ho4 hg4 hf4 hrg3 hrg hen hg3 d0 ho3 k23
        go_wp2_with fail
        exact ⟨⟨_, cnt1, ks ++ [x], Hg.out, Ho.out, HC'.out, by simp; omega⟩, by rw [Hg.out.left_eq, Hw.out.left_eq]; omega⟩
      · have HC' := Lib.hid (HC.out.pass (x := x) (by rw [hc]; exact hle))
        clear hlx hh hat hO
        have hle' : lim < c := by omega
        go_wp2_with fail
        exact ⟨⟨_, cnt1, ks, hrg3, ⟨Ho3.out, HO.out.fresh, k23⟩, HC'.out, by omega⟩, by rw [hrg3.left_eq, hrg.left_eq]; omega⟩

end Wh
end Go.Proofs.Ytlnoejmckpimnaa
