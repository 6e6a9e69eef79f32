/- Package tale: a line of an entry. -/
import Derived.Test.YthjefffefomioaaDoorTlC
import Derived.Test.YthjefffefomioaaDoorLst
import Derived.Deep.RegionLaw
import Derived.RegionTactic
import Derived.BigQuiet
import Derived.Deep.QuietTactic
import Derived.Lib.SliceRun
import Derived.Lib.TrimByte
namespace Go.Proofs.YthjefffefomioaaDoor
open Go.RowKit
namespace Tl

def formW : Nat → List UInt8
  | 0 => [112, 114, 111, 99]
  | 1 => [116, 105, 99, 107]
  | 2 => [100, 111, 110, 101]
  | 3 => [112, 114, 101, 101, 109, 112, 116]
  | 4 => [116, 117, 114, 110]
  | _ => [115, 104, 97, 114, 101]
def formS : Nat → Nat
  | 0 => 2
  | 1 => 0
  | 2 => 2
  | 3 => 1
  | 4 => 1
  | _ => 0

theorem formS_le (k : Nat) : formS k ≤ 2 := by
  unfold formS
  split <;> omega

structure Stp where
  kind : Int
  a : Int
  b : Int
  deriving DecidableEq

def numsB (l : List Int) : List UInt8 := l.flatMap fun n => 32 :: Lib.itoa n
def lineOf (k : Nat) (l : List Int) : List UInt8 := formW k ++ numsB l

/-- An entry's line, if it has one. -/
def lineB (x : Stp) : Option (List UInt8) :=
  if 1 ≤ x.kind ∧ x.kind ≤ 6 then
    (if ([x.a, x.b].drop (formS (x.kind - 1).toNat)).any (fun n => n != 0) then none else some (lineOf (x.kind - 1).toNat ([x.a, x.b].take (formS (x.kind - 1).toNat))))
  else none

def Fit (n : Int) : Prop := -9223372036854775808 ≤ n ∧ n ≤ 9223372036854775807

def formCells : Array Value := #[S (formW 0), .int .i64 2, S (formW 1), .int .i64 0, S (formW 2), .int .i64 2, S (formW 3), .int .i64 1, S (formW 4), .int .i64 1, S (formW 5), .int .i64 0]

theorem forms_calls (w : World) : Calls Tryd.prog 27 #[] w fun e w' => e = .returned (.slice (some ⟨w.heap.size, 0, none⟩) 6 6) ∧ w' = w.alloc (.cells formCells 61 (0, 0)) := by
  go_enter Tryd.func27, Tryd.ntmps27
  go_wp2_with fail
  go_ret
  exact ⟨rfl, rfl⟩

theorem form_at {w : World} {g : Nat} (h : w.heap[g]? = some (.cells formCells 61 (0, 0))) (k : Nat) (hk : k < 6) : w.cell? ⟨g, k * 2, none⟩ = some (S (formW k)) ∧ w.cell? ⟨g, k * 2 + 1, none⟩ = some (.int .i64 (formS k : Nat)) := by
  match k, hk with
  | 0, _ => exact ⟨cell_of_block (o := 0) h rfl, cell_of_block (o := 1) h rfl⟩
  | 1, _ => exact ⟨cell_of_block (o := 2) h rfl, cell_of_block (o := 3) h rfl⟩
  | 2, _ => exact ⟨cell_of_block (o := 4) h rfl, cell_of_block (o := 5) h rfl⟩
  | 3, _ => exact ⟨cell_of_block (o := 6) h rfl, cell_of_block (o := 7) h rfl⟩
  | 4, _ => exact ⟨cell_of_block (o := 8) h rfl, cell_of_block (o := 9) h rfl⟩
  | 5, _ => exact ⟨cell_of_block (o := 10) h rfl, cell_of_block (o := 11) h rfl⟩

theorem nz_calls (n : Int) (w : World) : Calls Tryd.prog 29 #[.int .i64 n] w fun e w' => e = .returned (.bool (n != 0)) ∧ w = w' := by
  go_enter Tryd.func29, Tryd.ntmps29
  go_wp2_with fail
  go_ret
  exact ⟨rfl, rfl⟩

set_option maxRecDepth 100000 in
/-- The first of a few numbers that is not 0. -/
theorem idx_calls (w : World) (v : Value) (xs : List Int) (hr : ReadsI .i64 w v xs) (hl : xs.length ≤ 1000) :
    Calls Tryd.prog 54 #[v, .func (.func 29) #[] #[]] w fun e w' => (∃ i : Int, e = .returned (.int .i64 i) ∧ (decide (0 ≤ i) = xs.any fun n => n != 0)) ∧ Keeps NoBlock w w' := by
  obtain ⟨A, b, off, cap, rfl, hA, hc⟩ := hr
  have HA := Lib.hid hA
  have HC := Lib.hid hc
  clear hA hc
  go_enter Tryd.func54, Tryd.ntmps54
  go_wp2_with fail
  go_loopw [8] (fun i wr => ∃ k : Nat, k ≤ xs.length ∧ i = .int .i64 k ∧ (xs.take k).any (fun n => n != 0) = false ∧ Keeps NoBlock w wr) (fun i _ => xs.length - (intOf i).toNat)
  case atStart => exact ⟨0, Nat.zero_le _, rfl, rfl, Keeps.refl _ _⟩
  case round =>
    obtain ⟨k, hk, rfl, hn, hkw⟩ := hrel
    have HN := Lib.hid hn
    have HK := Lib.hid hkw
    clear hn hkw
    have hwk : IntKind.i64.wrap ((k : Int) + 1) = (k : Int) + 1 := by rw [IntKind.wrap_i64]; omega
    by_cases hlt : k < xs.length
    · obtain ⟨x, hx⟩ : ∃ x, xs[k]? = some x := ⟨_, List.getElem?_eq_getElem hlt⟩
      obtain ⟨rfl, hb⟩ := HA.out (by omega)
      have hcx := (HK.out.cell hb (fun e => e)).trans (HC.out k x hx)
      have hk0 : (0 : Int) ≤ (k : Int) := by omega
      have hkz : (k : Int) < (xs.length : Int) := by omega
      have hnext : Hid ((xs.take (k + 1)).any (fun n => n != 0) = (x != 0)) := by
        show _ = _
        rw [List.take_add_one, hx, Option.toList_some, List.any_append, HN.out]
        simp
      have hfnd : Hid ((x != 0) = true → xs.any (fun n => n != 0) = true) := fun e => List.any_eq_true.2 ⟨x, List.mem_of_getElem? hx, e⟩
      clear hx hb
      go_wp2_with fail
      refine (nz_calls x _).mono ?_
      rintro e w2 ⟨rfl, rfl⟩
      cases hx0 : (x != 0) with
      | true =>
        have hf := Lib.hid (hfnd.out hx0)
        clear hx0 hfnd hnext
        go_wp2_with fail
        go_ret
        exact ⟨⟨(k : Int), rfl, by rw [hf.out]; exact decide_eq_true hk0⟩, HK.out⟩
      | false =>
        rw [hx0] at hnext
        clear hx0 hfnd
        go_wp2_with fail
        exact ⟨⟨k + 1, by omega, by simp, hnext.out, HK.out⟩, by simp [intOf]; omega⟩
    · obtain rfl : k = xs.length := by omega
      have hN := HN.out
      rw [List.take_length] at hN
      have HN' := Lib.hid hN
      clear hN
      go_wp2_with fail
      go_ret
      exact ⟨⟨-1, rfl, by rw [HN'.out]; rfl⟩, HK.out⟩

theorem cont_calls (w : World) (v : Value) (xs : List Int) (hr : ReadsI .i64 w v xs) (hl : xs.length ≤ 1000) :
    Calls Tryd.prog 28 #[v, .func (.func 29) #[] #[]] w fun e w' => e = .returned (.bool (xs.any fun n => n != 0)) ∧ Keeps NoBlock w w' := by
  have H := Lib.hid (idx_calls w v xs hr hl)
  obtain ⟨A, b, off, cap, rfl, _, _⟩ := hr
  go_enter Tryd.func28, Tryd.ntmps28
  go_wp2_with fail
  refine H.out.mono ?_
  rintro e w' ⟨⟨i, rfl, hi⟩, k⟩
  have Hi := Lib.hid hi
  have HK := Lib.hid k
  clear hi k
  go_wp2_with fail
  go_ret
  exact ⟨by rw [← Hi.out]; simp, HK.out⟩

end Tl
end Go.Proofs.YthjefffefomioaaDoor
