/- Package frame: what an instruction does, as one word. -/
import Derived.Test.YtlnoejmckpimnaaFrD
import Derived.Test.YtlnoejmckpimnaaFrE
import Derived.Test.YtlnoejmckpimnaaFrG
namespace Go.Proofs.Ytlnoejmckpimnaa
open Go.RowKit Ieee
namespace Fr

def okR (n : Int) : Bool := decide (0 ≤ n ∧ n < 8)

/-- What a plain instruction makes of a frame and a memory, or why it does not. -/
def doF (f : Frm) (i : In5) (ms : List Int) : Except Int (Frm × List Int) :=
  if i.1 = 16 then .ok ({ f with P := wrap64 i.2.2.2.2 }, ms)
  else if okR i.2.1 = false then .error 8
  else if i.1 = 17 then .ok ({ f with P := if f.rs.getD i.2.1.toNat 0 = 0 then wrap64 i.2.2.2.2 else wrap64 (f.P + 1) }, ms)
  else if i.1 = 1 then .ok ({ f with P := wrap64 (f.P + 1), rs := f.rs.set i.2.1.toNat i.2.2.2.2 }, ms)
  else if okR i.2.2.1 = false then .error 8
  else if i.1 = 18 then
    (if ms.length ≤ (f.rs.getD i.2.2.1.toNat 0).toNat then .error 6 else .ok ({ f with P := wrap64 (f.P + 1), rs := f.rs.set i.2.1.toNat (ms.getD (f.rs.getD i.2.2.1.toNat 0).toNat 0) }, ms))
  else if i.1 = 19 then
    (if ms.length ≤ (f.rs.getD i.2.1.toNat 0).toNat then .error 6 else .ok ({ f with P := wrap64 (f.P + 1) }, ms.set (f.rs.getD i.2.1.toNat 0).toNat (f.rs.getD i.2.2.1.toNat 0)))
  else if shortB i.1 = true then .ok ({ f with P := wrap64 (f.P + 1), rs := f.rs.set i.2.1.toNat ((ariI i.1 (f.rs.getD i.2.2.1.toNat 0).toNat 0).getD 0) }, ms)
  else if okR i.2.2.2.1 = false then .error 8
  else .ok ({ f with P := wrap64 (f.P + 1), rs := f.rs.set i.2.1.toNat ((ariI i.1 (f.rs.getD i.2.2.1.toNat 0).toNat (f.rs.getD i.2.2.2.1.toNat 0).toNat).getD 0) }, ms)

def DoPost (w : World) (d g : Nat) (r : Except Int (Frm × List Int)) (e : Ending) (w' : World) : Prop := match r with
  | .error k => Stopped w k e w'
  | .ok x => Done w d g x.1 x.2 e w'

theorem okR_no {n : Int} (h : okR n = false) : n < 0 ∨ 8 ≤ n := by
  unfold okR at h
  rw [decide_eq_false_iff_not] at h
  omega
theorem okR_yes {n : Int} (h : ¬ okR n = false) : ∃ k : Nat, n = k ∧ k < 8 := by
  unfold okR at h
  simp at h
  exact ⟨n.toNat, by omega, by omega⟩

theorem rs_at {f : Frm} (h : f.rs.length = 8) {k : Nat} (hk : k < 8) : f.rs[k]? = some (f.rs.getD k 0) := by
  rw [List.getD_eq_getElem?_getD, List.getElem?_eq_getElem (by rw [h]; exact hk)]; rfl
theorem rs_bd {f : Frm} (hb : ∀ x ∈ f.rs, 0 ≤ x ∧ x < 18446744073709551616) (h : f.rs.length = 8) {k : Nat} (hk : k < 8) : ∃ x : Nat, f.rs.getD k 0 = x ∧ x < 18446744073709551616 := by
  have := hb _ (List.mem_of_getElem? (rs_at h hk))
  exact ⟨(f.rs.getD k 0).toNat, by omega, by omega⟩

theorem do_calls {w : World} {d g : Nat} {f : Frm} {ms : List Int} (i : In5) (h : DoAt w d g f ms) (hb : ∀ x ∈ f.rs, 0 ≤ x ∧ x < 18446744073709551616) (h1 : 1 ≤ i.1 ∧ i.1 ≤ 19) : Calls Try.prog 45 #[.pointer (some ⟨d, 0, none⟩), insV i] w (DoPost w d g (doF f i ms)) := by
  obtain ⟨op, A, B, C, N⟩ := i
  simp only [] at h1
  unfold doF
  simp only []
  by_cases e16 : op = 16
  · subst e16; rw [if_pos rfl]; exact do_jump A B C N h
  rw [if_neg e16]
  by_cases eA : okR A = false
  · rw [if_pos eA]
    have hA := okR_no eA
    by_cases e17 : op = 17
    · subst e17; exact do_zero_bad A B C N h hA
    by_cases e1 : op = 1
    · subst e1; exact do_set_bad A B C N h hA
    by_cases e18 : op = 18
    · subst e18; exact do_load_badA A B C N h hA
    by_cases e19 : op = 19
    · subst e19; exact do_store_badA A B C N h hA
    exact do_ari_badA op A B C N h (by omega) hA
  rw [if_neg eA]
  obtain ⟨a, rfl, ha⟩ := okR_yes eA
  rw [Int.toNat_natCast]
  have hra := rs_at h.rl ha
  by_cases e17 : op = 17
  · subst e17; rw [if_pos rfl]; exact do_zero a B C N _ h ha hra
  rw [if_neg e17]
  by_cases e1 : op = 1
  · subst e1; rw [if_pos rfl]; exact do_set a B C N _ h ha hra
  rw [if_neg e1]
  by_cases eB : okR B = false
  · rw [if_pos eB]
    have hB := okR_no eB
    by_cases e18 : op = 18
    · subst e18; exact do_load_badB a B C N h ha hB
    by_cases e19 : op = 19
    · subst e19; exact do_store_badB a B C N h ha hB
    exact do_ari_badB op a B C N h (by omega) ha hB
  rw [if_neg eB]
  obtain ⟨b, rfl, hb8⟩ := okR_yes eB
  rw [Int.toNat_natCast]
  have hrb := rs_at h.rl hb8
  obtain ⟨x, hx, hxb⟩ := rs_bd hb h.rl hb8
  obtain ⟨z, hz, hzb⟩ := rs_bd hb h.rl ha
  by_cases e18 : op = 18
  · subst e18
    rw [if_pos rfl, hx, Int.toNat_natCast]
    rw [hx] at hrb
    by_cases hl : ms.length ≤ x
    · rw [if_pos hl]; exact do_load_fault a b x C N h ha hb8 hrb hl
    · rw [if_neg hl]
      exact do_load a b x C N _ _ h ha hb8 hrb (by rw [List.getD_eq_getElem?_getD, List.getElem?_eq_getElem (show x < ms.length by omega)]; rfl) hra
  rw [if_neg e18]
  by_cases e19 : op = 19
  · subst e19
    rw [if_pos rfl, hz, Int.toNat_natCast]
    rw [hz] at hra
    by_cases hl : ms.length ≤ z
    · rw [if_pos hl]; exact do_store_fault a b z C N _ h ha hb8 hra hrb hl
    · rw [if_neg hl]
      exact do_store a b z C N _ _ h ha hb8 hra (List.getElem?_eq_getElem (show z < ms.length by omega)) hrb
  rw [if_neg e19, hx, Int.toNat_natCast]
  rw [hx] at hrb
  by_cases es : shortB op = true
  · rw [if_pos es]; exact do_short op a b x C N _ h (by omega) es ha hb8 hrb hra hxb
  rw [if_neg es]
  have es' : shortB op = false := by simpa using es
  by_cases eC : okR C = false
  · rw [if_pos eC]; exact do_ari_badC op a b C N _ _ h (by omega) es' ha hb8 (okR_no eC) hrb hra
  rw [if_neg eC]
  obtain ⟨c, rfl, hc⟩ := okR_yes eC
  obtain ⟨y, hy, hyb⟩ := rs_bd hb h.rl hc
  have hrc := rs_at h.rl hc
  rw [Int.toNat_natCast, hy, Int.toNat_natCast]
  rw [hy] at hrc
  exact do_long op a b c x y N _ h (by omega) es' ha hb8 hc hrb hrc hra hxb hyb
end Fr
end Go.Proofs.Ytlnoejmckpimnaa
