/- Package disk: library functions at its requests. -/
import Derived.Test.YtgepedfipfobjaaDisk0
import Derived.Test.YtgepedfipfobjaaLst
import Derived.WalkKit
import Derived.Lib.SliceRun
namespace Go.Proofs.Ytgepedfipfobjaa
open Go.RowKit

theorem clipR_calls (A : Option Addr) (n cap : Nat) (hn : n ≤ cap) (hA : A = none → n = 0 ∧ cap = 0) (w : World) :
    Calls Try.prog 31 #[.slice A n cap] w fun e w' => e = .returned (.slice A n n) ∧ w = w' := by
  cases A with
  | none =>
    obtain ⟨rfl, rfl⟩ := hA rfl
    go_enter Try.func31, Try.ntmps31
    go_wp2
    go_ret
    exact ⟨rfl, rfl⟩
  | some a =>
    have hA' := Lib.hid hA
    clear hA
    go_enter Try.func31, Try.ntmps31
    go_wp2
    go_ret
    exact ⟨rfl, rfl⟩
theorem cloneR_calls (v : Value) (n : Nat) (xs : List Value) (w : World) (h : Own w 29 4 v n xs) (h1 : ∀ u ∈ xs, u.oneCell' = true) (hn : n ≤ 1000000) :
    Calls Try.prog 32 #[v] w fun e w' => ∃ v', e = .returned v' ∧ Own w' 29 4 v' n xs ∧ (∀ k, v'.ownBlock = some k → w.heap.size ≤ k) ∧ Keeps NoBlock w w' := by
  have q : ∀ (w : World) (a : Option Addr) (n c n' c' : Nat), (binOp .eql 26 (.slice a n c) (.slice none n' c')).run Try.prog w = .ok (.bool a.isNone) w := fun w a n c n' c' => Lib.run_eql_slice_nil w _ _ a n c n' c' Try.underlying26
  rcases Own.form h with ⟨rfl, rfl⟩ | ⟨g, cap, rfl, hg, hnc, hc⟩
  · have hx : xs = [] := List.eq_nil_of_length_eq_zero (by simpa using h.1)
    subst hx
    clear h h1
    go_enter Try.func32, Try.ntmps32
    go_wp2
    go_ret
    exact ⟨_, rfl, World.ownsRow_nil _ _ _ _, fun k hk => by simp [Value.ownBlock] at hk, Keeps.refl _ _⟩
  · have H := Lib.hid h
    have H1 := Lib.hid h1
    clear h h1
    go_enter Try.func32, Try.ntmps32
    go_wp2_with (at_builtin; refine wpList_appN reqE _ rfl _ _ rfl (.slice (some ⟨w.heap.size, 0, none⟩) 0 0) 0 [] rfl ?_ ⟨g, 0, none⟩ n cap xs rfl ?_ ?_ H1.out ?_ ?_ ?_)
    · exact World.ownsRow_lit w #[] 0 (Nat.zero_le _) (by simp [maxLen]) (by simp)
    · exact H.out.1
    · intro j u hj
      rw [Addr.add_lit, Nat.zero_add]
      have hjl : j < n * 4 := by rw [← H.out.1]; exact (List.getElem?_eq_some_iff.1 hj).1
      have := World.ownsRow.cellAt (World.ownsRow.alloc H.out (.cells #[] 29)) j hjl
      rw [this]; exact hj
    · simp only [maxLen]; omega
    · omega
    intro v' w' ho hgr hfr hsm
    have HO := Lib.hid ho
    have HF := Lib.hid hfr
    have HG := Lib.hid hgr
    clear ho hfr hsm hgr
    go_wp2
    go_ret
    refine ⟨v', rfl, HO.out, fun k hk => ?_, ?_⟩
    · rcases HF.out k hk with h | h
      · simp only [Value.ownBlock, Option.some.injEq] at h; omega
      · omega
    · exact ((Keeps.refl NoBlock w).alloc _).grown HG.out (fun k hk => .inr (by simp only [Value.ownBlock, Option.some.injEq] at hk; omega))
end Go.Proofs.Ytgepedfipfobjaa
