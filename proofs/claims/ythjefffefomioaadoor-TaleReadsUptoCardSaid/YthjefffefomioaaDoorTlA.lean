/- Words between spaces, lines, numerals: plain laws, no program in sight. -/
import Derived.Lib.SplitLaws
import Derived.Lib.AtoiAllCases
import Derived.Lib.ItoaNum
import Derived.Lib.ItoaLen
import Derived.Lib.Strings
namespace Go.Proofs.YthjefffefomioaaDoor
namespace Tl
open Go.Lib

/-- A list cut at each c. -/
def cutAt (c : UInt8) : List UInt8 → List (List UInt8)
  | [] => [[]]
  | b :: l => if b = c then [] :: cutAt c l else match cutAt c l with
    | [] => [[b]]
    | p :: ps => (b :: p) :: ps

theorem cutAt_ne (c : UInt8) : ∀ l, cutAt c l ≠ []
  | [] => by simp [cutAt]
  | b :: l => by
    unfold cutAt
    split
    · simp
    · split <;> simp

theorem cutAt_none (c : UInt8) : ∀ (l : List UInt8), c ∉ l → cutAt c l = [l]
  | [], _ => rfl
  | b :: l, h => by
    have hb : b ≠ c := fun e => h (by rw [e]; exact List.mem_cons_self ..)
    have hl : c ∉ l := fun e => h (List.mem_cons_of_mem _ e)
    rw [cutAt, if_neg hb, cutAt_none c l hl]

theorem cutAt_hit (c : UInt8) : ∀ (a r : List UInt8), c ∉ a → cutAt c (a ++ c :: r) = a :: cutAt c r
  | [], r, _ => by rw [List.nil_append, cutAt, if_pos rfl]
  | b :: a, r, h => by
    have hb : b ≠ c := fun e => h (by rw [e]; exact List.mem_cons_self ..)
    have hl : c ∉ a := fun e => h (List.mem_cons_of_mem _ e)
    rw [List.cons_append, cutAt, if_neg hb, cutAt_hit c a r hl]

/-- Either c does not occur, or there is a first place. -/
theorem first_at (c : UInt8) : ∀ (l : List UInt8), c ∉ l ∨ ∃ a r, l = a ++ c :: r ∧ c ∉ a
  | [] => .inl (by simp)
  | b :: l => by
    by_cases hb : b = c
    · subst hb
      exact .inr ⟨[], l, rfl, by simp⟩
    · rcases first_at c l with h | ⟨a, r, rfl, h⟩
      · exact .inl (by simp [Ne.symm hb, h])
      · exact .inr ⟨b :: a, r, rfl, by simp [Ne.symm hb, h]⟩

theorem index_none1 (c : UInt8) : ∀ (l : List UInt8), c ∉ l → index l [c] = -1
  | [], _ => rfl
  | b :: l, h => by
    have hb : b ≠ c := fun e => h (by rw [e]; exact List.mem_cons_self ..)
    have hl : c ∉ l := fun e => h (List.mem_cons_of_mem _ e)
    rw [index, if_neg (by simp [Ne.symm hb]), index_none1 c l hl, if_pos (by decide)]

theorem index_hit1 (c : UInt8) : ∀ (a r : List UInt8), c ∉ a → index (a ++ c :: r) [c] = (a.length : Int)
  | [], r, _ => by simp [index]
  | b :: a, r, h => by
    have hb : b ≠ c := fun e => h (by rw [e]; exact List.mem_cons_self ..)
    have hl : c ∉ a := fun e => h (List.mem_cons_of_mem _ e)
    rw [List.cons_append, index, if_neg (by simp [Ne.symm hb]), index_hit1 c a r hl, if_neg (by simp), List.length_cons]
    omega

theorem split_cut (c : UInt8) : ∀ (n : Nat) (l : List UInt8), l.length ≤ n → splitK [c] 0 (count l [c]) l = cutAt c l
  | n, l, hn => by
    rcases first_at c l with h | ⟨a, r, rfl, h⟩
    · rw [count_miss (index_none1 c l h), cutAt_none c l h]
      rfl
    · have hi := index_hit1 c a r h
      rw [count_hit (by simp) hi, cutAt_hit c a r h, Nat.add_comm, splitK, if_neg (by rw [hi]; simp), hi]
      have e1 : ((a.length : Int).toNat + 0) = a.length := by omega
      have e2 : (a ++ c :: r).drop ((a.length : Int).toNat + [c].length) = r := by
        rw [show ((a.length : Int).toNat + [c].length) = a.length + 1 by simp]
        rw [List.drop_append]
        simp
      have e3 : (a ++ c :: r).drop (a.length + [c].length) = r := by
        rw [show a.length + [c].length = a.length + 1 by simp, List.drop_append]
        simp
      rw [e1, e2, e3, List.take_left]
      cases n with
      | zero => simp at hn
      | succ n => rw [split_cut c n r (by simp at hn; omega)]

/-- The pieces that strings.Split hands back, as lists. -/
theorem splitB_cut (c : UInt8) (s : ByteArray) : (splitB ⟨#[c]⟩ 0 (countB s ⟨#[c]⟩) s).map (·.data.toList) = cutAt c s.data.toList := by
  rw [splitB_data]
  exact split_cut c _ _ (Nat.le_refl _)

/-- Words with a c between them, none of which holds c. -/
def joinAt (c : UInt8) : List (List UInt8) → List UInt8
  | [] => []
  | [a] => a
  | a :: b :: l => a ++ c :: joinAt c (b :: l)

theorem cutAt_join (c : UInt8) : ∀ (ps : List (List UInt8)), ps ≠ [] → (∀ p ∈ ps, c ∉ p) → cutAt c (joinAt c ps) = ps
  | [], h, _ => absurd rfl h
  | [a], _, h => cutAt_none c a (h a (by simp))
  | a :: b :: l, _, h => by
    rw [joinAt, cutAt_hit c a _ (h a (by simp)), cutAt_join c (b :: l) (by simp) (fun p hp => h p (List.mem_cons_of_mem _ hp))]

/-- Numerals hold digits, and at most a sign. -/
theorem decDigits_mem : ∀ (u : Nat) (b : UInt8), b ∈ decDigits u → 48 ≤ b.toNat ∧ b.toNat ≤ 57 := by
  intro u
  induction u using Nat.strongRecOn with
  | ind u ih =>
    intro b hb
    rw [decDigits] at hb
    split at hb
    · rename_i h
      simp only [List.mem_singleton] at hb
      subst hb
      rw [UInt8.toNat_ofNat']
      omega
    · rename_i h
      rcases List.mem_append.1 hb with h1 | h1
      · exact ih (u / 10) (by omega) b h1
      · simp only [List.mem_singleton] at h1
        subst h1
        rw [UInt8.toNat_ofNat']
        omega

theorem decDigits_ne (u : Nat) : decDigits u ≠ [] := by
  rw [decDigits]
  split <;> simp

theorem itoa_mem (n : Int) (b : UInt8) (h : b ∈ itoa n) : b = 45 ∨ (48 ≤ b.toNat ∧ b.toNat ≤ 57) := by
  unfold itoa at h
  split at h
  · rcases List.mem_cons.1 h with h1 | h1
    · exact .inl h1
    · exact .inr (decDigits_mem _ _ h1)
  · exact .inr (decDigits_mem _ _ h)

theorem itoa_no (n : Int) (c : UInt8) (h : c.toNat < 45) : c ∉ itoa n := fun e => by
  rcases itoa_mem n c e with h1 | h1
  · subst h1
    exact absurd h (by decide)
  · omega

/-- A numeral is read as it was written. -/
theorem parse_digits : ∀ (u acc : Nat) (rest : List UInt8), acc * 10 ^ nDigits u + u < 18446744073709551616 → parseUint10 acc (decDigits u ++ rest) = parseUint10 (acc * 10 ^ nDigits u + u) rest := by
  intro u
  induction u using Nat.strongRecOn with
  | ind u ih =>
    intro acc rest h
    have key : ∀ (v d : Nat) (r : List UInt8), d < 10 → v * 10 + d < 18446744073709551616 → parseUint10 v (UInt8.ofNat (48 + d) :: r) = parseUint10 (v * 10 + d) r := fun v d r hd hv => by
      have e : (UInt8.ofNat (48 + d)).toNat = 48 + d := by rw [UInt8.toNat_ofNat']; omega
      rw [parseUint10, e, if_pos (by omega), if_neg (by omega), show 48 + d - 48 = d by omega, if_neg (by omega)]
    by_cases h10 : u < 10
    · rw [decDigits, dif_pos h10]
      rw [nDigits_small h10, Nat.pow_one] at h ⊢
      exact key acc u rest h10 h
    · rw [decDigits, dif_neg h10]
      rw [nDigits_big h10] at h ⊢
      have e1 : acc * 10 ^ (nDigits (u / 10) + 1) + u = (acc * 10 ^ nDigits (u / 10) + u / 10) * 10 + u % 10 := by
        rw [Nat.pow_succ, ← Nat.mul_assoc, Nat.add_mul]
        omega
      rw [e1] at h ⊢
      rw [List.append_assoc, ih (u / 10) (by omega) acc _ (by omega), List.singleton_append]
      exact key _ _ rest (by omega) h

theorem parse_mag (u : Nat) (h : u < 18446744073709551616) : parseMag (decDigits u) = .ok u := by
  unfold parseMag
  rw [if_neg (decDigits_ne u)]
  have := parse_digits u 0 [] (by omega)
  rw [List.append_nil] at this
  rw [this]
  simp [parseUint10]

theorem atoi_itoa (n : Int) (h0 : -9223372036854775808 ≤ n) (h1 : n ≤ 9223372036854775807) : atoiAll (itoa n) = .ok n := by
  unfold itoa
  split
  · rename_i hn
    rw [atoiAll_minus, parse_mag _ (by omega)]
    simp only [signed]
    rw [if_neg (by omega)]
    congr 1
    omega
  · rename_i hn
    obtain ⟨c, r, hc⟩ : ∃ c r, decDigits n.toNat = c :: r := by
      cases e : decDigits n.toNat with
      | nil => exact absurd e (decDigits_ne _)
      | cons c r => exact ⟨c, r, rfl⟩
    have hm := decDigits_mem n.toNat c (by rw [hc]; exact List.mem_cons_self ..)
    rw [hc, atoiAll_plain c r (by omega) (by omega), ← hc, parse_mag _ (by omega)]
    simp only [signless]
    rw [if_neg (by omega)]
    congr 1
    omega

/-- What Atoi's first result is, whatever the string. -/
def atoiVal (l : List UInt8) : Int := match atoiAll l with
  | .ok v => v
  | .range => atoiSat l
  | _ => 0

theorem atoiVal_itoa (n : Int) (h0 : -9223372036854775808 ≤ n) (h1 : n ≤ 9223372036854775807) : atoiVal (itoa n) = n := by
  unfold atoiVal
  rw [atoi_itoa n h0 h1]

theorem atoiVal_bounds (l : List UInt8) : -9223372036854775808 ≤ atoiVal l ∧ atoiVal l ≤ 9223372036854775807 := by
  unfold atoiVal
  split
  · rename_i v h
    exact atoiAll_bounds h
  · unfold atoiSat
    split <;> omega
  · omega

/-- Lines, each with its newline where it has one. -/
def linesOf : List UInt8 → List (List UInt8)
  | [] => []
  | b :: l => if b = 10 then [10] :: linesOf l else match linesOf l with
    | [] => [[b]]
    | p :: ps => (b :: p) :: ps

theorem linesOf_none : ∀ (l : List UInt8), l ≠ [] → 10 ∉ l → linesOf l = [l]
  | [b], _, h => by
    have hb : b ≠ 10 := fun e => h (by rw [e]; exact List.mem_cons_self ..)
    simp [linesOf, hb]
  | b :: c :: l, _, h => by
    have hb : b ≠ 10 := fun e => h (by rw [e]; exact List.mem_cons_self ..)
    have hl : 10 ∉ c :: l := fun e => h (List.mem_cons_of_mem _ e)
    rw [linesOf, if_neg hb, linesOf_none (c :: l) (by simp) hl]

theorem linesOf_hit : ∀ (a r : List UInt8), 10 ∉ a → linesOf (a ++ 10 :: r) = (a ++ [10]) :: linesOf r
  | [], r, _ => by rw [List.nil_append, linesOf, if_pos rfl]; rfl
  | b :: a, r, h => by
    have hb : b ≠ 10 := fun e => h (by rw [e]; exact List.mem_cons_self ..)
    have hl : 10 ∉ a := fun e => h (List.mem_cons_of_mem _ e)
    rw [List.cons_append, linesOf, if_neg hb, linesOf_hit a r hl]
    rfl

/-- A line without its newline. -/
def trimNl (l : List UInt8) : List UInt8 := trimSuffix l [10]

theorem trimNl_none (l : List UInt8) (h : 10 ∉ l) : trimNl l = l := by
  unfold trimNl trimSuffix hasSuffix
  rw [if_neg]
  intro e
  obtain ⟨t, ht⟩ := List.isSuffixOf_iff_suffix.1 e
  exact h (by rw [← ht]; simp)

theorem trimNl_hit (a : List UInt8) : trimNl (a ++ [10]) = a := by
  unfold trimNl trimSuffix hasSuffix
  rw [if_pos (List.isSuffixOf_iff_suffix.2 ⟨a, rfl⟩)]
  simp

end Tl
end Go.Proofs.YthjefffefomioaaDoor
