/- Package gate, in plain words: what stays true whatever is done. -/
import Derived.Test.YtlgolofcpokndaaGtR
namespace Go.Proofs.Ytlgolofcpokndaa
open Go.RowKit
namespace Gt

/-- Something that is counted over who waits. -/
structure Meas (f : List Wt → Nat) (g : Int → Nat) : Prop where
  add : ∀ q (y : Wt), f (q ++ [y]) = f q + g y.1
  era : ∀ (q : List Wt) i (y : Wt), q[i]? = some y → f (q.eraseIdx i) + g y.1 = f q

def wsum (f : List Wt → Nat) (st : St) : Nat := sumL (fun x => f x.q) st.ms + sumL f st.cs + sumL (fun x => f x.2) st.ss

def Less (st st' : St) : Prop := ∀ f g, Meas f g → wsum f st' ≤ wsum f st
def More (who : Int) (st st' : St) : Prop := waitsA st who = false ∧ ∀ f g, Meas f g → wsum f st' ≤ wsum f st + g who

theorem Less.refl (st : St) : Less st st := fun _ _ _ => Nat.le_refl _
theorem Less.trans {a b c : St} (h : Less a b) (k : Less b c) : Less a c := fun f g m => Nat.le_trans (k f g m) (h f g m)

def cq (z : Int) (q : List Wt) : Nat := (q.map Prod.fst).count z

theorem meas_len : Meas List.length (fun _ => 1) := ⟨fun q y => by simp, fun q i y h => by
  have := (List.getElem?_eq_some_iff.1 h).1
  rw [List.length_eraseIdx_of_lt this]
  omega⟩

theorem cq_erase (z : Int) : ∀ (q : List Wt) (i : Nat) (y : Wt), q[i]? = some y → cq z (q.eraseIdx i) + (if y.1 = z then 1 else 0) = cq z q
  | [], i, y, h => by simp at h
  | a :: q, 0, y, h => by
    simp only [List.getElem?_cons_zero, Option.some.injEq] at h
    subst h
    simp [cq, List.count_cons]
  | a :: q, i + 1, y, h => by
    have := cq_erase z q i y (by simpa using h)
    simp [cq, List.count_cons] at this ⊢
    omega

theorem meas_cq (z : Int) : Meas (cq z) (fun y => if y = z then 1 else 0) := ⟨fun q y => by
  simp [cq, List.count_append, List.count_singleton], fun q i y h => cq_erase z q i y h⟩

theorem tot_eq (st : St) : tot st = wsum List.length st := rfl

theorem cq_pos {who : Int} {q : List Wt} (h : hasB who q = false) : cq who q = 0 := by
  unfold cq
  rw [List.count_eq_zero]
  intro hm
  obtain ⟨y, hy, e⟩ := List.mem_map.1 hm
  unfold hasB at h
  rw [List.any_eq_false] at h
  exact h y hy (by simpa using e)

theorem sumL_zero {α : Type} (f : α → Nat) : ∀ (l : List α), (∀ x ∈ l, f x = 0) → sumL f l = 0
  | [], _ => rfl
  | a :: l, h => by
    have := sumL_zero f l (fun x hx => h x (List.mem_cons_of_mem _ hx))
    have h1 := h a (List.mem_cons_self ..)
    simp [sumL] at this ⊢
    exact ⟨h1, this⟩

theorem not_waiting {st : St} {who : Int} (h : waitsA st who = false) : wsum (cq who) st = 0 := by
  unfold waitsA at h
  rw [Bool.or_eq_false_iff, Bool.or_eq_false_iff] at h
  obtain ⟨⟨h1, h2⟩, h3⟩ := h
  rw [List.any_eq_false] at h1 h2 h3
  unfold wsum
  rw [sumL_zero _ st.ms (fun x hx => cq_pos (by simpa using h1 x hx)), sumL_zero _ st.cs (fun x hx => cq_pos (by simpa using h2 x hx)), sumL_zero _ st.ss (fun x hx => cq_pos (by simpa using h3 x hx))]

/-- A mutex that is turned. -/
theorem wsum_m {f : List Wt → Nat} {st : St} {m : Nat} {x : MA} (hx : st.ms[m]? = some x) (x' : MA) : wsum f { st with ms := st.ms.set m x' } + f x.q = wsum f st + f x'.q := by
  have h1 := sumL_set (fun x : MA => f x.q) st.ms m x x' hx
  unfold wsum
  simp only [] at h1 ⊢
  omega
theorem wsum_c {f : List Wt → Nat} {st : St} {m : Nat} {x : List Wt} (hx : st.cs[m]? = some x) (x' : List Wt) : wsum f { st with cs := st.cs.set m x' } + f x = wsum f st + f x' := by
  have h1 := sumL_set f st.cs m x x' hx
  unfold wsum
  simp only [] at h1 ⊢
  omega
theorem wsum_s {f : List Wt → Nat} {st : St} {m : Nat} {x : Int × List Wt} (hx : st.ss[m]? = some x) (x' : Int × List Wt) : wsum f { st with ss := st.ss.set m x' } + f x.2 = wsum f st + f x'.2 := by
  have h1 := sumL_set (fun x : Int × List Wt => f x.2) st.ss m x x' hx
  unfold wsum
  simp only [] at h1 ⊢
  omega

structure Inv (k : Nat) (st : St) : Prop where
  t : tot st ≤ k
  im : InM st
  hq : ∀ x ∈ st.ms, x.held = false → x.q = []
  cn : ∀ x ∈ st.ss, 0 ≤ x.1 ∧ x.1 ≤ 1048576
  nd : ∀ z, wsum (cq z) st ≤ 1

/-- How many of each there are. -/
def Same (st st' : St) : Prop := st'.ms.length = st.ms.length ∧ st'.cs.length = st.cs.length ∧ st'.ss.length = st.ss.length

theorem Same.refl (st : St) : Same st st := ⟨rfl, rfl, rfl⟩
theorem Same.trans {a b c : St} (h : Same a b) (k : Same b c) : Same a c := ⟨k.1.trans h.1, k.2.1.trans h.2.1, k.2.2.trans h.2.2⟩

theorem Inv.mono {k k' : Nat} {st : St} (h : Inv k st) (hk : k ≤ k') : Inv k' st := ⟨Nat.le_trans h.t hk, h.im, h.hq, h.cn, h.nd⟩

theorem Inv.less {k : Nat} {st st' : St} (h : Inv k st) (hl : Less st st') (im : InM st') (hq : ∀ x ∈ st'.ms, x.held = false → x.q = []) (cn : ∀ x ∈ st'.ss, 0 ≤ x.1 ∧ x.1 ≤ 1048576) : Inv k st' :=
  ⟨Nat.le_trans (hl _ _ meas_len) h.t, im, hq, cn, fun z => Nat.le_trans (hl _ _ (meas_cq z)) (h.nd z)⟩

theorem Inv.more {k : Nat} {who : Int} {st st' : St} (h : Inv k st) (hl : More who st st') (im : InM st') (hq : ∀ x ∈ st'.ms, x.held = false → x.q = []) (cn : ∀ x ∈ st'.ss, 0 ≤ x.1 ∧ x.1 ≤ 1048576) : Inv (k + 1) st' :=
  ⟨by have := hl.2 _ _ meas_len; have := h.t; rw [tot_eq] at this ⊢; omega, im, hq, cn, fun z => by
    have h1 := hl.2 _ _ (meas_cq z)
    by_cases e : who = z
    · subst e
      have := not_waiting hl.1
      rw [if_pos rfl] at h1
      omega
    · rw [if_neg e] at h1
      have := h.nd z
      omega⟩

theorem nth_get {α : Type} {l : List α} {i : Int} {x : α} (h : nth l i = some x) : 0 ≤ i ∧ l[i.toNat]? = some x := by
  unfold nth at h
  split at h
  · exact ⟨by assumption, h⟩
  · cases h

theorem mem_set {α : Type} {l : List α} {i : Nat} {y : α} {P : α → Prop} (h : ∀ x ∈ l, P x) (hy : P y) : ∀ x ∈ l.set i y, P x := fun x hx => by
  rcases List.mem_or_eq_of_mem_set hx with h1 | h1
  · exact h x h1
  · rw [h1]; exact hy

theorem InM.len {st st' : St} (h : InM st) (hc : st'.cs = st.cs) (hl : st'.ms.length = st.ms.length) : InM st' := by
  intro q hq y hy
  rw [hc] at hq
  rw [hl]
  exact h q hq y hy

theorem lockX_held (x : MA) (who : Int) : (lockX x who).held = true := by
  unfold lockX
  split
  · assumption
  · rfl

theorem lockX_more {f : List Wt → Nat} {g : Int → Nat} (m : Meas f g) (x : MA) (who : Int) : f (lockX x who).q ≤ f x.q + g who := by
  unfold lockX
  split
  · rw [m.add]; exact Nat.le_refl _
  · exact Nat.le_add_right _ _

theorem LockA_inv {k : Nat} {st : St} (h : Inv k st) (who m : Int) : Inv (k + 1) (LockA st who m).2.2 ∧ Same st (LockA st who m).2.2 := by
  unfold LockA
  split
  · exact ⟨h.mono (Nat.le_succ _), Same.refl _⟩
  · rename_i x hx
    obtain ⟨h0, hx⟩ := nth_get hx
    split
    · exact ⟨h.mono (Nat.le_succ _), Same.refl _⟩
    · rename_i hw
      simp only [Bool.or_eq_true, not_or, Bool.not_eq_true] at hw
      rw [lockA_eq hx]
      refine ⟨h.more (who := who) ⟨hw.1, fun f g M => ?_⟩ (h.im.len rfl (by simp)) ?_ h.cn, by simp [Same]⟩
      · have h1 := wsum_m (f := f) hx (lockX x who)
        have h2 := lockX_more M x who
        simp only []
        omega
      · refine mem_set h.hq (fun e => ?_)
        rw [lockX_held] at e
        cases e

theorem unlockA_less {st : St} {m : Nat} {c : Int} {x : MA} (hx : st.ms[m]? = some x) : Less st (unlockA st m c).2.2 ∧ Same st (unlockA st m c).2.2 ∧ (unlockA st m c).2.2.cs = st.cs ∧ (unlockA st m c).2.2.ss = st.ss ∧
    ((∀ x ∈ st.ms, x.held = false → x.q = []) → ∀ x ∈ (unlockA st m c).2.2.ms, x.held = false → x.q = []) := by
  unfold unlockA
  rw [hx]
  simp only []
  cases hy : x.q[at_ c x.q.length]? with
  | none =>
    have hq := at_none hy
    refine ⟨fun f g M => ?_, by simp [Same], rfl, rfl, fun h => mem_set h (fun _ => hq)⟩
    have h1 := wsum_m (f := f) hx ⟨false, 0, x.q⟩
    simp only [] at h1 ⊢
    omega
  | some y =>
    refine ⟨fun f g M => ?_, by simp [Same], rfl, rfl, fun h => mem_set h (fun e => by cases e)⟩
    have h1 := wsum_m (f := f) hx ⟨true, y.1, x.q.eraseIdx (at_ c x.q.length)⟩
    have h2 := M.era _ _ _ hy
    simp only [] at h1 ⊢
    omega

theorem UnlockA_inv {k : Nat} {st : St} (h : Inv k st) (who m c : Int) : Inv k (UnlockA st who m c).2.2.2 ∧ Same st (UnlockA st who m c).2.2.2 := by
  unfold UnlockA
  split
  · exact ⟨h, Same.refl _⟩
  · rename_i x hx
    obtain ⟨h0, hx⟩ := nth_get hx
    split
    · obtain ⟨h1, h2, h3, h4, h5⟩ := unlockA_less (c := c) hx
      exact ⟨h.less h1 (h.im.len h3 h2.1) (h5 h.hq) (by simp only [h4]; exact h.cn), h2⟩
    · exact ⟨h, Same.refl _⟩

theorem WaitA_inv {k : Nat} {st : St} (h : Inv k st) (who c m ch : Int) : Inv (k + 1) (WaitA st who c m ch).2.2.2 ∧ Same st (WaitA st who c m ch).2.2.2 := by
  unfold WaitA
  split
  · rename_i x q hx hq
    obtain ⟨h0, hx⟩ := nth_get hx
    obtain ⟨h0', hq⟩ := nth_get hq
    have hml := (List.getElem?_eq_some_iff.1 hx).1
    split
    · exact ⟨h.mono (Nat.le_succ _), Same.refl _⟩
    · rename_i hw
      split
      · obtain ⟨h1, h2, h3, h4, h5⟩ := unlockA_less (c := ch) hx
        simp only [condA, h3, hq]
        refine ⟨h.more (who := who) ⟨by simpa using hw, fun f g M => ?_⟩ ?_ (h5 h.hq) (by simp only [h4]; exact h.cn), ?_⟩
        · have e1 := wsum_c (f := f) (st := (unlockA st m.toNat ch).2.2) (m := c.toNat) (x := q) (by rw [h3]; exact hq) (q ++ [(who, m)])
          have e2 := M.add q (who, m)
          have e3 := h1 f g M
          rw [h3] at e1
          simp only [] at e1 e2 ⊢
          omega
        · intro r hr y hy
          simp only [] at hr ⊢
          rw [h2.1]
          rcases List.mem_or_eq_of_mem_set hr with e | e
          · exact h.im r e y hy
          · subst e
            rcases List.mem_append.1 hy with e | e
            · exact h.im q (List.mem_of_getElem? hq) y e
            · simp only [List.mem_singleton] at e
              subst e
              simp only []
              omega
        · exact ⟨h2.1, by simp, h2.2.2⟩
      · exact ⟨h.mono (Nat.le_succ _), Same.refl _⟩
  · exact ⟨h.mono (Nat.le_succ _), Same.refl _⟩

theorem sigN_inv {st : St} {c : Nat} {ch : Int} {q : List Wt} (hI : InM st) (hq : st.cs[c]? = some q) : ∀ k, k ≤ q.length → Less st (sigN c ch st k).2 ∧ Same st (sigN c ch st k).2 ∧ ((∀ x ∈ st.ms, x.held = false → x.q = []) → ∀ x ∈ (sigN c ch st k).2.ms, x.held = false → x.q = [])
  | 0, _ => ⟨Less.refl _, Same.refl _, fun h => h⟩
  | k + 1, hk => by
    obtain ⟨a1, a2, a3⟩ := sigN_inv (ch := ch) hI hq k (by omega)
    obtain ⟨qk, h1, h2, h3, h4⟩ := sigN_row (ch := ch) hI hq k (by omega)
    have hlt := at_lt ch (n := qk.length) (by omega)
    obtain ⟨y, hy⟩ : ∃ y, qk[at_ ch qk.length]? = some y := ⟨_, List.getElem?_eq_getElem hlt⟩
    have hyr := h3 qk (List.mem_of_getElem? h1) y (List.mem_of_getElem? hy)
    obtain ⟨x, hx⟩ : ∃ x, (sigN c ch st k).2.ms[y.2.toNat]? = some x := ⟨_, List.getElem?_eq_getElem (by omega)⟩
    have hst : sigN c ch st (k + 1) = sigStep c ch (sigN c ch st k) := rfl
    rw [hst, sigStep_eq h1 hy hx]
    refine ⟨a1.trans (fun f g M => ?_), a2.trans ⟨by simp, by simp, rfl⟩, fun h => mem_set (a3 h) (fun e => by rw [lockX_held] at e; cases e)⟩
    have e1 := wsum_c (f := f) h1 (qk.eraseIdx (at_ ch qk.length))
    have e2 := wsum_m (f := f) (st := { (sigN c ch st k).2 with cs := (sigN c ch st k).2.cs.set c (qk.eraseIdx (at_ ch qk.length)) }) hx (lockX x y.1)
    have e3 := M.era _ _ _ hy
    have e4 := lockX_more M x y.1
    simp only [] at e1 e2 ⊢
    omega

theorem SignalA_inv {k : Nat} {st : St} (h : Inv k st) (c ch : Int) (all : Bool) : Inv k (SignalA st c ch all).2.2 ∧ Same st (SignalA st c ch all).2.2 := by
  unfold SignalA
  split
  · exact ⟨h, Same.refl _⟩
  · rename_i q hq
    obtain ⟨h0, hq⟩ := nth_get hq
    have key : ∀ ch n, n ≤ q.length → Inv k (sigN c.toNat ch st n).2 ∧ Same st (sigN c.toNat ch st n).2 := fun ch n hn => by
      obtain ⟨h1, h2, h3⟩ := sigN_inv (ch := ch) h.im hq n hn
      obtain ⟨_, _, _, h4, _⟩ := sigN_row (ch := ch) h.im hq n hn
      exact ⟨h.less h1 h4 (h3 h.hq) (by rw [sigN_ss]; exact h.cn), h2⟩
    split
    · exact key 0 _ (Nat.le_refl _)
    · exact key ch _ (Nat.min_le_left _ _)

theorem DownA_inv {k : Nat} {st : St} (h : Inv k st) (who s : Int) : Inv (k + 1) (DownA st who s).2.2 ∧ Same st (DownA st who s).2.2 := by
  unfold DownA
  split
  · exact ⟨h.mono (Nat.le_succ _), Same.refl _⟩
  · rename_i x hx
    obtain ⟨h0, hx⟩ := nth_get hx
    have hc := h.cn x (List.mem_of_getElem? hx)
    split
    · exact ⟨h.mono (Nat.le_succ _), Same.refl _⟩
    · rename_i hw
      split
      · rename_i hp
        refine ⟨h.more (who := who) ⟨by simpa using hw, fun f g M => ?_⟩ h.im h.hq (mem_set h.cn (by simp only []; omega)), by simp [Same]⟩
        have e := wsum_s (f := f) hx (x.1 - 1, x.2)
        simp only [] at e ⊢
        omega
      · refine ⟨h.more (who := who) ⟨by simpa using hw, fun f g M => ?_⟩ h.im h.hq (mem_set h.cn hc), by simp [Same]⟩
        have e := wsum_s (f := f) hx (x.1, x.2 ++ [(who, 0)])
        have e2 := M.add x.2 (who, 0)
        simp only [] at e e2 ⊢
        omega

theorem UpA_inv {k : Nat} {st : St} (h : Inv k st) (s c : Int) : Inv k (UpA st s c).2.2.2 ∧ Same st (UpA st s c).2.2.2 := by
  unfold UpA
  split
  · exact ⟨h, Same.refl _⟩
  · rename_i x hx
    obtain ⟨h0, hx⟩ := nth_get hx
    have hc := h.cn x (List.mem_of_getElem? hx)
    split
    · rename_i y hy
      refine ⟨h.less (fun f g M => ?_) h.im h.hq (mem_set h.cn hc), by simp [Same]⟩
      have e := wsum_s (f := f) hx (x.1, x.2.eraseIdx (at_ c x.2.length))
      have e2 := M.era _ _ _ hy
      simp only [] at e e2 ⊢
      omega
    · split
      · exact ⟨h, Same.refl _⟩
      · rename_i hp
        refine ⟨h.less (fun f g M => ?_) h.im h.hq (mem_set h.cn (by simp only []; omega)), by simp [Same]⟩
        have e := wsum_s (f := f) hx (x.1 + 1, x.2)
        simp only [] at e ⊢
        omega

end Gt
end Go.Proofs.Ytlgolofcpokndaa
