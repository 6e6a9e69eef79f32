/- The statement NumOrder. -/
import Derived.Test.YtlnoejmckpimnaaNumI
namespace Go.Proofs.Ytlnoejmckpimnaa
open Go.RowKit Ieee

theorem word_inj {x y : Nat} (hx : x < 18446744073709551616) (hy : y < 18446744073709551616) (h1 : signOf x = signOf y) (h2 : rungOf x = rungOf y) : x = y := by
  have a := word_back hx
  have b := word_back hy
  rw [a, b, h1, h2]
theorem rank_inj {x y : Nat} (hx : x < 18446744073709551616) (hy : y < 18446744073709551616) (h : rankI x = rankI y) : x = y := by
  unfold rankI at h
  apply word_inj hx hy
  · cases h1 : signOf x <;> cases h2 : signOf y <;> rw [h1, h2] at h <;> simp at h ⊢ <;> omega
  · cases h1 : signOf x <;> cases h2 : signOf y <;> rw [h1, h2] at h <;> simp at h ⊢ <;> omega
theorem key_alike {x y : Nat} (hx : x < 18446744073709551616) (hy : y < 18446744073709551616) (h : keyOf x = keyOf y) : x = y ∨ (rungOf x = 0 ∧ rungOf y = 0) := by
  unfold keyOf at h
  by_cases z : rungOf x = 0
  · right
    refine ⟨z, ?_⟩
    rw [z] at h
    split at h <;> split at h <;> omega
  · left
    apply word_inj hx hy
    · cases h1 : signOf x <;> cases h2 : signOf y <;> rw [h1, h2] at h <;> simp at h ⊢ <;> omega
    · cases h1 : signOf x <;> cases h2 : signOf y <;> rw [h1, h2] at h <;> simp at h ⊢ <;> omega
theorem rank_key {x y : Nat} (h : keyOf x < keyOf y) : rankI x < rankI y := by
  unfold keyOf at h
  unfold rankI
  split <;> split <;> simp_all <;> omega

/-- How two numbers stand to each other. -/
structure Stand (x y lo hi : Nat) (b1 b2 al : Bool) : Prop where
  l1 : lessB x y = b1
  l2 : lessB y x = b2
  low : lowN x y = lo
  high : highN x y = hi
  back : lessB hi lo = false
  which : (lo = x ∧ hi = y) ∨ (x ≠ y ∧ lo = y ∧ hi = x)
  alike : al = true ↔ (x = y ∨ (rungOf x = 0 ∧ rungOf y = 0))
  one : (b1 = true ∧ b2 = false ∧ al = false) ∨ (b1 = false ∧ b2 = true ∧ al = false) ∨ (b1 = false ∧ b2 = false ∧ al = true)

theorem stand {x y : Nat} (hx : x < 18446744073709551616) (hy : y < 18446744073709551616) (nx : nanB x = false) (ny : nanB y = false) : ∃ lo hi b1 b2 al, Stand x y lo hi b1 b2 al := by
  have hlo : lowN x y = minN x y := by unfold lowN; rw [nx, ny]; rfl
  have hhi : highN x y = maxN x y := by unfold highN; rw [nx, ny]; rfl
  have hsame : keyOf x = keyOf y → ∀ p q : Nat, (p = x ∨ p = y) → (q = x ∨ q = y) → lessB p q = false := by
    rintro h p q (rfl | rfl) (rfl | rfl) <;> rw [less_key (by assumption) (by assumption)] <;> exact decide_eq_false (by omega)
  have hmin : (minN x y = x ∧ maxN x y = y) ∨ (x ≠ y ∧ minN x y = y ∧ maxN x y = x) := by
    unfold minN maxN
    by_cases e : x = y
    · subst e; left; simp
    · have hne : rankI x ≠ rankI y := fun h => e (rank_inj hx hy h)
      by_cases h : rankI x < rankI y
      · left; rw [if_pos h, if_neg (by omega)]; exact ⟨rfl, rfl⟩
      · right; rw [if_neg h, if_pos (by omega)]; exact ⟨e, rfl, rfl⟩
  have hno : keyOf x ≠ keyOf y → ¬ (x = y ∨ (rungOf x = 0 ∧ rungOf y = 0)) := by
    intro h h'
    apply h
    rcases h' with rfl | ⟨a, b⟩
    · rfl
    · unfold keyOf; rw [a, b]; split <;> split <;> rfl
  by_cases h : keyOf x = keyOf y
  · refine ⟨_, _, false, false, true, ⟨hsame h _ _ (.inl rfl) (.inr rfl), hsame h _ _ (.inr rfl) (.inl rfl), hlo, hhi, ?_, hmin, ?_, by simp⟩⟩
    · apply hsame h <;> rcases hmin with ⟨a, b⟩ | ⟨_, a, b⟩ <;> simp [a, b]
    · exact ⟨fun _ => key_alike hx hy h, fun _ => rfl⟩
  · by_cases h2 : keyOf x < keyOf y
    · have hr := rank_key h2
      refine ⟨x, y, true, false, false, ⟨by rw [less_key nx ny]; exact decide_eq_true h2, by rw [less_key ny nx]; exact decide_eq_false (by omega), ?_, ?_, by rw [less_key ny nx]; exact decide_eq_false (by omega), .inl ⟨rfl, rfl⟩, ⟨fun h => by simp at h, fun h' => (hno h h').elim⟩, by simp⟩⟩
      · rw [hlo]; unfold minN; rw [if_pos hr]
      · rw [hhi]; unfold maxN; rw [if_neg (by omega)]
    · have h3 : keyOf y < keyOf x := by omega
      have hr := rank_key h3
      refine ⟨y, x, false, true, false, ⟨by rw [less_key nx ny]; exact decide_eq_false (by omega), by rw [less_key ny nx]; exact decide_eq_true h3, ?_, ?_, by rw [less_key nx ny]; exact decide_eq_false (by omega), .inr ⟨fun e => by subst e; omega, rfl, rfl⟩, ⟨fun h => by simp at h, fun h' => (hno h h').elim⟩, by simp⟩⟩
      · rw [hlo]; unfold minN; rw [if_neg (by omega)]
      · rw [hhi]; unfold maxN; rw [if_pos hr]

theorem less_chain {x y z : Nat} (h1 : lessB x y = true) (h2 : lessB y z = true) : lessB x z = true := by
  have nx : nanB x = false := by
    cases h : nanB x
    · rfl
    · rw [less_nan (.inl h)] at h1; cases h1
  have ny : nanB y = false := by
    cases h : nanB y
    · rfl
    · rw [less_nan (.inr h)] at h1; cases h1
  have nz : nanB z = false := by
    cases h : nanB z
    · rfl
    · rw [less_nan (.inr h)] at h2; cases h2
  rw [less_key nx ny] at h1
  rw [less_key ny nz] at h2
  rw [less_key nx nz]
  have := of_decide_eq_true h1
  have := of_decide_eq_true h2
  exact decide_eq_true (by omega)
end Go.Proofs.Ytlnoejmckpimnaa
