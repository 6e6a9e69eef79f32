/- Package vessel: what its calls come to. -/
import Derived.Test.YtpchhlhjmkkoiaaEvH
namespace Go.Proofs.Ytpchhlhjmkkoiaa
open Go.RowKit

abbrev vesV (mode thread : Int) (A : Option Addr) (n c : Nat) : Value := .agg #[.int .i64 mode, .int .i64 thread, .slice A n c]
abbrev vesC (mode thread : Int) (A : Option Addr) (n c : Nat) : Array Value := #[.int .i64 mode, .int .i64 thread, .slice A n c]

/-- Does it run a thread? -/
def vrunsB (mode thread : Int) : Bool := (mode == 5 || mode == 6 || mode == 7) && decide (0 ≤ thread)
/-- Is it within a section? -/
def holdsB (mode : Int) : Bool := mode == 2 || mode == 4 || mode == 7

theorem mode_cases (m : Int) : m = 2 ∨ m = 4 ∨ m = 5 ∨ m = 6 ∨ m = 7 ∨ ((m == 2) = false ∧ (m == 4) = false ∧ (m == 5) = false ∧ (m == 6) = false ∧ (m == 7) = false) := by
  by_cases h2 : m = 2
  · exact .inl h2
  by_cases h4 : m = 4
  · exact .inr (.inl h4)
  by_cases h5 : m = 5
  · exact .inr (.inr (.inl h5))
  by_cases h6 : m = 6
  · exact .inr (.inr (.inr (.inl h6)))
  by_cases h7 : m = 7
  · exact .inr (.inr (.inr (.inr (.inl h7))))
  · exact .inr (.inr (.inr (.inr (.inr (by simp [h2, h4, h5, h6, h7])))))

theorem holds_calls (mode thread : Int) (A : Option Addr) (n c : Nat) (w : World) (b : Bool) (hb : holdsB mode = b) : Calls Try.prog 16 #[vesV mode thread A n c] w fun e w' => e = .returned (.bool b) ∧ Keeps NoBlock w w' := by
  rcases mode_cases mode with rfl | rfl | rfl | rfl | rfl | ⟨h2, h4, h5, h6, h7⟩
  · obtain rfl : b = true := by rw [← hb]; rfl
    clear hb
    go_enter Try.func16, Try.ntmps16
    go_wp2
    go_ret
    exact ⟨rfl, (Keeps.refl _ _).alloc _⟩
  · obtain rfl : b = true := by rw [← hb]; rfl
    clear hb
    go_enter Try.func16, Try.ntmps16
    go_wp2
    go_ret
    exact ⟨rfl, (Keeps.refl _ _).alloc _⟩
  · obtain rfl : b = false := by rw [← hb]; rfl
    clear hb
    go_enter Try.func16, Try.ntmps16
    go_wp2
    go_ret
    exact ⟨rfl, (Keeps.refl _ _).alloc _⟩
  · obtain rfl : b = false := by rw [← hb]; rfl
    clear hb
    go_enter Try.func16, Try.ntmps16
    go_wp2
    go_ret
    exact ⟨rfl, (Keeps.refl _ _).alloc _⟩
  · obtain rfl : b = true := by rw [← hb]; rfl
    clear hb
    go_enter Try.func16, Try.ntmps16
    go_wp2
    go_ret
    exact ⟨rfl, (Keeps.refl _ _).alloc _⟩
  · obtain rfl : b = false := by rw [← hb]; simp [holdsB, h2, h4, h7]
    clear hb
    go_enter Try.func16, Try.ntmps16
    go_wp2
    go_ret
    exact ⟨rfl, (Keeps.refl _ _).alloc _⟩

theorem vruns_calls (mode thread : Int) (A : Option Addr) (n c : Nat) (w : World) (b : Bool) (hb : vrunsB mode thread = b) : Calls Try.prog 15 #[vesV mode thread A n c] w fun e w' => e = out2 (if b then thread else 0) b ∧ Keeps NoBlock w w' := by
  by_cases hth : 0 ≤ thread
  · rcases mode_cases mode with rfl | rfl | rfl | rfl | rfl | ⟨h2, h4, h5, h6, h7⟩
    · obtain rfl : b = false := by rw [← hb]; simp [vrunsB]
      clear hb
      go_enter Try.func15, Try.ntmps15
      go_wp2
      go_ret2
      exact ⟨rfl, (Keeps.refl _ _).alloc _⟩
    · obtain rfl : b = false := by rw [← hb]; simp [vrunsB]
      clear hb
      go_enter Try.func15, Try.ntmps15
      go_wp2
      go_ret2
      exact ⟨rfl, (Keeps.refl _ _).alloc _⟩
    · obtain rfl : b = true := by rw [← hb]; simp [vrunsB, hth]
      clear hb
      go_enter Try.func15, Try.ntmps15
      go_wp2
      go_ret2
      exact ⟨rfl, (Keeps.refl _ _).alloc _⟩
    · obtain rfl : b = true := by rw [← hb]; simp [vrunsB, hth]
      clear hb
      go_enter Try.func15, Try.ntmps15
      go_wp2
      go_ret2
      exact ⟨rfl, (Keeps.refl _ _).alloc _⟩
    · obtain rfl : b = true := by rw [← hb]; simp [vrunsB, hth]
      clear hb
      go_enter Try.func15, Try.ntmps15
      go_wp2
      go_ret2
      exact ⟨rfl, (Keeps.refl _ _).alloc _⟩
    · obtain rfl : b = false := by rw [← hb]; simp [vrunsB, h5, h6, h7]
      have h5' : (mode != 5) = true := by simpa using h5
      have h6' : (mode != 6) = true := by simpa using h6
      have h7' : (mode != 7) = true := by simpa using h7
      clear hb
      go_enter Try.func15, Try.ntmps15
      go_wp2
      go_ret2
      exact ⟨rfl, (Keeps.refl _ _).alloc _⟩
  · have hth' : thread < 0 := by omega
    have hd : decide (0 ≤ thread) = false := decide_eq_false hth
    have Hd := Lib.hid hd
    clear hth hd
    obtain rfl : b = false := by rw [← hb]; simp [vrunsB, Hd.out]
    clear hb
    rcases mode_cases mode with rfl | rfl | rfl | rfl | rfl | ⟨h2, h4, h5, h6, h7⟩
    · go_enter Try.func15, Try.ntmps15
      go_wp2
      go_ret2
      exact ⟨rfl, (Keeps.refl _ _).alloc _⟩
    · go_enter Try.func15, Try.ntmps15
      go_wp2
      go_ret2
      exact ⟨rfl, (Keeps.refl _ _).alloc _⟩
    · go_enter Try.func15, Try.ntmps15
      go_wp2
      go_ret2
      exact ⟨rfl, (Keeps.refl _ _).alloc _⟩
    · go_enter Try.func15, Try.ntmps15
      go_wp2
      go_ret2
      exact ⟨rfl, (Keeps.refl _ _).alloc _⟩
    · go_enter Try.func15, Try.ntmps15
      go_wp2
      go_ret2
      exact ⟨rfl, (Keeps.refl _ _).alloc _⟩
    · have h5' : (mode != 5) = true := by simpa using h5
      have h6' : (mode != 6) = true := by simpa using h6
      have h7' : (mode != 7) = true := by simpa using h7
      go_enter Try.func15, Try.ntmps15
      go_wp2
      go_ret2
      exact ⟨rfl, (Keeps.refl _ _).alloc _⟩

/-- What stands ahead of the events that count again. -/
def preL (mode thread : Int) : List Ev :=
  if holdsB mode then [⟨4, if vrunsB mode thread then thread else -1, mode⟩] else if vrunsB mode thread then [⟨4, thread, 0⟩] else []
theorem preL_len (mode thread : Int) : (preL mode thread).length ≤ 1 := by unfold preL; split <;> (try split) <;> simp

theorem nilE (w : World) : Rd encE 3 w (.slice none 0 0) ([] : List Ev) := ⟨none, 0, 0, 0, rfl, fun h => by simp at h, fun j x i u hx => by simp at hx⟩


theorem strip_hr (mode thread : Int) (A : Option Addr) (n c : Nat) (xs KL SL : List Ev) (w : World) (HR : Hid (Rd encE 3 w (.slice A n c) xs)) (Hb : Hid (xs.length * 24 ≤ 140737488351232)) (hKL : Hid (KL = xs.filterMap fKeep)) (hkb : KL.length ≤ xs.length)
    (hSL : Hid (SL = [⟨4, thread, mode⟩] ++ KL)) (hh : holdsB mode = true) (hr : vrunsB mode thread = true) : Calls Try.prog 13 #[vesV mode thread A n c] w (NewEvs w SL) := by
  have hruns := Lib.hid (fun W => vruns_calls mode thread A n c W _ hr)
  have hholds := Lib.hid (fun W => holds_calls mode thread A n c W _ hh)
  have hkeep : Hid (∀ W, Keeps NoBlock w W → Calls Try.prog 25 #[.slice A n c] W (NewEvs W KL)) := fun W kW => by rw [hKL.out]; exact keep_calls _ xs W (HR.out.keeps kW (fun _ _ h => h)) Hb.out
  clear hh hr
  go_enter Try.func13, Try.ntmps13
  go_wp2_with fail
  refine (hruns.out _).mono ?_
  rintro e w1 ⟨rfl, k1⟩
  have k1' := ((Keeps.refl NoBlock w).alloc (.cells (vesC mode thread A n c) 24)).trans k1 (fun _ _ h => h)
  have b1 : Hid (w1.heap[w.heap.size]? = some (.cells (vesC mode thread A n c) 24 (0, 0))) := (k1.block _ (by simp) (fun h => h)).trans (block_alloc_new _ _)
  have p0 : w1.cell? ⟨w.heap.size, 0, none⟩ = some (.int .i64 mode) := cell_of_block b1.out rfl
  have p1 : w1.cell? ⟨w.heap.size, 1, none⟩ = some (.int .i64 thread) := cell_of_block b1.out rfl
  have p2 : w1.cell? ⟨w.heap.size, 2, none⟩ = some (.slice A n c) := cell_of_block b1.out rfl
  have K1 := Lib.hid k1'
  clear k1 k1'
  go_wp2_with fail
  refine (hholds.out _).mono ?_
  rintro e w2 ⟨rfl, k2⟩
  have b2 : Hid (w2.heap[w.heap.size]? = some (.cells (vesC mode thread A n c) 24 (0, 0))) := (k2.block _ (lt_of_block b1.out) (fun h => h)).trans b1.out
  have q0 : w2.cell? ⟨w.heap.size, 0, none⟩ = some (.int .i64 mode) := cell_of_block b2.out rfl
  have q1 : w2.cell? ⟨w.heap.size, 1, none⟩ = some (.int .i64 thread) := cell_of_block b2.out rfl
  have q2 : w2.cell? ⟨w.heap.size, 2, none⟩ = some (.slice A n c) := cell_of_block b2.out rfl
  have z2 := lt_of_block b2.out
  have K2 := Lib.hid (K1.out.trans k2 (fun _ _ h => h))
  clear k2 p0 p1 p2
  go_wp2_with fail
  have ka := K2.out.alloc (.cells #[.int .i64 4, .int .i64 thread, .int .i64 mode] 36)
  have HP : Hid (Rd encE 3 (w2.alloc (.cells #[.int .i64 4, .int .i64 thread, .int .i64 mode] 36)) (.slice (some ⟨w2.heap.size, 0, none⟩) 1 1) [⟨4, thread, mode⟩]) := litE w2 [⟨4, thread, mode⟩] (by simp)
  refine (hkeep.out _ ka).mono ?_
  rintro e w4 ⟨A4, c4, rfl, M4⟩
  have hj : Calls Try.prog 27 #[.slice (some ⟨w2.heap.size, 0, none⟩) 1 1, .slice A4 KL.length c4] w4 (NewEvs w4 SL) := by
    rw [hSL.out]
    exact join_calls _ _ [⟨4, thread, mode⟩] KL w4 (HP.out.keeps M4.kp (fun _ _ h => h)) (Own.rd encE_len M4.own) (by have := Hb.out; simp; omega)
  have Hj := Lib.hid hj
  have K4 := Lib.hid (ka.trans M4.kp (fun _ _ h => h))
  clear hj M4 ka
  go_wp2_with fail
  refine Hj.out.mono ?_
  rintro e w5 ⟨A5, c5, rfl, M5⟩
  have HM := Lib.hid (M5.back K4.out)
  clear M5
  go_wp2_with fail
  go_ret
  exact ⟨A5, c5, rfl, HM.out⟩

theorem strip_hn (mode thread : Int) (A : Option Addr) (n c : Nat) (xs KL SL : List Ev) (w : World) (HR : Hid (Rd encE 3 w (.slice A n c) xs)) (Hb : Hid (xs.length * 24 ≤ 140737488351232)) (hKL : Hid (KL = xs.filterMap fKeep)) (hkb : KL.length ≤ xs.length)
    (hSL : Hid (SL = [⟨4, (-1), mode⟩] ++ KL)) (hh : holdsB mode = true) (hr : vrunsB mode thread = false) : Calls Try.prog 13 #[vesV mode thread A n c] w (NewEvs w SL) := by
  have hruns := Lib.hid (fun W => vruns_calls mode thread A n c W _ hr)
  have hholds := Lib.hid (fun W => holds_calls mode thread A n c W _ hh)
  have hkeep : Hid (∀ W, Keeps NoBlock w W → Calls Try.prog 25 #[.slice A n c] W (NewEvs W KL)) := fun W kW => by rw [hKL.out]; exact keep_calls _ xs W (HR.out.keeps kW (fun _ _ h => h)) Hb.out
  clear hh hr
  go_enter Try.func13, Try.ntmps13
  go_wp2_with fail
  refine (hruns.out _).mono ?_
  rintro e w1 ⟨rfl, k1⟩
  have k1' := ((Keeps.refl NoBlock w).alloc (.cells (vesC mode thread A n c) 24)).trans k1 (fun _ _ h => h)
  have b1 : Hid (w1.heap[w.heap.size]? = some (.cells (vesC mode thread A n c) 24 (0, 0))) := (k1.block _ (by simp) (fun h => h)).trans (block_alloc_new _ _)
  have p0 : w1.cell? ⟨w.heap.size, 0, none⟩ = some (.int .i64 mode) := cell_of_block b1.out rfl
  have p1 : w1.cell? ⟨w.heap.size, 1, none⟩ = some (.int .i64 thread) := cell_of_block b1.out rfl
  have p2 : w1.cell? ⟨w.heap.size, 2, none⟩ = some (.slice A n c) := cell_of_block b1.out rfl
  have K1 := Lib.hid k1'
  clear k1 k1'
  go_wp2_with fail
  refine (hholds.out _).mono ?_
  rintro e w2 ⟨rfl, k2⟩
  have b2 : Hid (w2.heap[w.heap.size]? = some (.cells (vesC mode thread A n c) 24 (0, 0))) := (k2.block _ (lt_of_block b1.out) (fun h => h)).trans b1.out
  have q0 : w2.cell? ⟨w.heap.size, 0, none⟩ = some (.int .i64 mode) := cell_of_block b2.out rfl
  have q1 : w2.cell? ⟨w.heap.size, 1, none⟩ = some (.int .i64 thread) := cell_of_block b2.out rfl
  have q2 : w2.cell? ⟨w.heap.size, 2, none⟩ = some (.slice A n c) := cell_of_block b2.out rfl
  have z2 := lt_of_block b2.out
  have K2 := Lib.hid (K1.out.trans k2 (fun _ _ h => h))
  clear k2 p0 p1 p2
  go_wp2_with fail
  have ka := K2.out.alloc (.cells #[.int .i64 4, .int .i64 (-1), .int .i64 mode] 36)
  have HP : Hid (Rd encE 3 (w2.alloc (.cells #[.int .i64 4, .int .i64 (-1), .int .i64 mode] 36)) (.slice (some ⟨w2.heap.size, 0, none⟩) 1 1) [⟨4, (-1), mode⟩]) := litE w2 [⟨4, (-1), mode⟩] (by simp)
  refine (hkeep.out _ ka).mono ?_
  rintro e w4 ⟨A4, c4, rfl, M4⟩
  have hj : Calls Try.prog 27 #[.slice (some ⟨w2.heap.size, 0, none⟩) 1 1, .slice A4 KL.length c4] w4 (NewEvs w4 SL) := by
    rw [hSL.out]
    exact join_calls _ _ [⟨4, (-1), mode⟩] KL w4 (HP.out.keeps M4.kp (fun _ _ h => h)) (Own.rd encE_len M4.own) (by have := Hb.out; simp; omega)
  have Hj := Lib.hid hj
  have K4 := Lib.hid (ka.trans M4.kp (fun _ _ h => h))
  clear hj M4 ka
  go_wp2_with fail
  refine Hj.out.mono ?_
  rintro e w5 ⟨A5, c5, rfl, M5⟩
  have HM := Lib.hid (M5.back K4.out)
  clear M5
  go_wp2_with fail
  go_ret
  exact ⟨A5, c5, rfl, HM.out⟩

theorem strip_nr (mode thread : Int) (A : Option Addr) (n c : Nat) (xs KL SL : List Ev) (w : World) (HR : Hid (Rd encE 3 w (.slice A n c) xs)) (Hb : Hid (xs.length * 24 ≤ 140737488351232)) (hKL : Hid (KL = xs.filterMap fKeep)) (hkb : KL.length ≤ xs.length)
    (hSL : Hid (SL = [⟨4, thread, 0⟩] ++ KL)) (hh : holdsB mode = false) (hr : vrunsB mode thread = true) : Calls Try.prog 13 #[vesV mode thread A n c] w (NewEvs w SL) := by
  have hruns := Lib.hid (fun W => vruns_calls mode thread A n c W _ hr)
  have hholds := Lib.hid (fun W => holds_calls mode thread A n c W _ hh)
  have hkeep : Hid (∀ W, Keeps NoBlock w W → Calls Try.prog 25 #[.slice A n c] W (NewEvs W KL)) := fun W kW => by rw [hKL.out]; exact keep_calls _ xs W (HR.out.keeps kW (fun _ _ h => h)) Hb.out
  clear hh hr
  go_enter Try.func13, Try.ntmps13
  go_wp2_with fail
  refine (hruns.out _).mono ?_
  rintro e w1 ⟨rfl, k1⟩
  have k1' := ((Keeps.refl NoBlock w).alloc (.cells (vesC mode thread A n c) 24)).trans k1 (fun _ _ h => h)
  have b1 : Hid (w1.heap[w.heap.size]? = some (.cells (vesC mode thread A n c) 24 (0, 0))) := (k1.block _ (by simp) (fun h => h)).trans (block_alloc_new _ _)
  have p0 : w1.cell? ⟨w.heap.size, 0, none⟩ = some (.int .i64 mode) := cell_of_block b1.out rfl
  have p1 : w1.cell? ⟨w.heap.size, 1, none⟩ = some (.int .i64 thread) := cell_of_block b1.out rfl
  have p2 : w1.cell? ⟨w.heap.size, 2, none⟩ = some (.slice A n c) := cell_of_block b1.out rfl
  have K1 := Lib.hid k1'
  clear k1 k1'
  go_wp2_with fail
  refine (hholds.out _).mono ?_
  rintro e w2 ⟨rfl, k2⟩
  have b2 : Hid (w2.heap[w.heap.size]? = some (.cells (vesC mode thread A n c) 24 (0, 0))) := (k2.block _ (lt_of_block b1.out) (fun h => h)).trans b1.out
  have q0 : w2.cell? ⟨w.heap.size, 0, none⟩ = some (.int .i64 mode) := cell_of_block b2.out rfl
  have q1 : w2.cell? ⟨w.heap.size, 1, none⟩ = some (.int .i64 thread) := cell_of_block b2.out rfl
  have q2 : w2.cell? ⟨w.heap.size, 2, none⟩ = some (.slice A n c) := cell_of_block b2.out rfl
  have z2 := lt_of_block b2.out
  have K2 := Lib.hid (K1.out.trans k2 (fun _ _ h => h))
  clear k2 p0 p1 p2
  go_wp2_with fail
  have ka := K2.out.alloc (.cells #[.int .i64 4, .int .i64 thread, .int .i64 0] 36)
  have HP : Hid (Rd encE 3 (w2.alloc (.cells #[.int .i64 4, .int .i64 thread, .int .i64 0] 36)) (.slice (some ⟨w2.heap.size, 0, none⟩) 1 1) [⟨4, thread, 0⟩]) := litE w2 [⟨4, thread, 0⟩] (by simp)
  refine (hkeep.out _ ka).mono ?_
  rintro e w4 ⟨A4, c4, rfl, M4⟩
  have hj : Calls Try.prog 27 #[.slice (some ⟨w2.heap.size, 0, none⟩) 1 1, .slice A4 KL.length c4] w4 (NewEvs w4 SL) := by
    rw [hSL.out]
    exact join_calls _ _ [⟨4, thread, 0⟩] KL w4 (HP.out.keeps M4.kp (fun _ _ h => h)) (Own.rd encE_len M4.own) (by have := Hb.out; simp; omega)
  have Hj := Lib.hid hj
  have K4 := Lib.hid (ka.trans M4.kp (fun _ _ h => h))
  clear hj M4 ka
  go_wp2_with fail
  refine Hj.out.mono ?_
  rintro e w5 ⟨A5, c5, rfl, M5⟩
  have HM := Lib.hid (M5.back K4.out)
  clear M5
  go_wp2_with fail
  go_ret
  exact ⟨A5, c5, rfl, HM.out⟩

theorem strip_nn (mode thread : Int) (A : Option Addr) (n c : Nat) (xs KL SL : List Ev) (w : World) (HR : Hid (Rd encE 3 w (.slice A n c) xs)) (Hb : Hid (xs.length * 24 ≤ 140737488351232)) (hKL : Hid (KL = xs.filterMap fKeep)) (hkb : KL.length ≤ xs.length)
    (hSL : Hid (SL = [] ++ KL)) (hh : holdsB mode = false) (hr : vrunsB mode thread = false) : Calls Try.prog 13 #[vesV mode thread A n c] w (NewEvs w SL) := by
  have hruns := Lib.hid (fun W => vruns_calls mode thread A n c W _ hr)
  have hholds := Lib.hid (fun W => holds_calls mode thread A n c W _ hh)
  have hkeep : Hid (∀ W, Keeps NoBlock w W → Calls Try.prog 25 #[.slice A n c] W (NewEvs W KL)) := fun W kW => by rw [hKL.out]; exact keep_calls _ xs W (HR.out.keeps kW (fun _ _ h => h)) Hb.out
  clear hh hr
  go_enter Try.func13, Try.ntmps13
  go_wp2_with fail
  refine (hruns.out _).mono ?_
  rintro e w1 ⟨rfl, k1⟩
  have k1' := ((Keeps.refl NoBlock w).alloc (.cells (vesC mode thread A n c) 24)).trans k1 (fun _ _ h => h)
  have b1 : Hid (w1.heap[w.heap.size]? = some (.cells (vesC mode thread A n c) 24 (0, 0))) := (k1.block _ (by simp) (fun h => h)).trans (block_alloc_new _ _)
  have p0 : w1.cell? ⟨w.heap.size, 0, none⟩ = some (.int .i64 mode) := cell_of_block b1.out rfl
  have p1 : w1.cell? ⟨w.heap.size, 1, none⟩ = some (.int .i64 thread) := cell_of_block b1.out rfl
  have p2 : w1.cell? ⟨w.heap.size, 2, none⟩ = some (.slice A n c) := cell_of_block b1.out rfl
  have K1 := Lib.hid k1'
  clear k1 k1'
  go_wp2_with fail
  refine (hholds.out _).mono ?_
  rintro e w2 ⟨rfl, k2⟩
  have b2 : Hid (w2.heap[w.heap.size]? = some (.cells (vesC mode thread A n c) 24 (0, 0))) := (k2.block _ (lt_of_block b1.out) (fun h => h)).trans b1.out
  have q0 : w2.cell? ⟨w.heap.size, 0, none⟩ = some (.int .i64 mode) := cell_of_block b2.out rfl
  have q1 : w2.cell? ⟨w.heap.size, 1, none⟩ = some (.int .i64 thread) := cell_of_block b2.out rfl
  have q2 : w2.cell? ⟨w.heap.size, 2, none⟩ = some (.slice A n c) := cell_of_block b2.out rfl
  have z2 := lt_of_block b2.out
  have K2 := Lib.hid (K1.out.trans k2 (fun _ _ h => h))
  clear k2 p0 p1 p2
  go_wp2_with fail
  have ka := K2.out
  have HP : Hid (Rd encE 3 w2 (.slice none 0 0) ([] : List Ev)) := nilE w2
  refine (hkeep.out _ ka).mono ?_
  rintro e w4 ⟨A4, c4, rfl, M4⟩
  have hj : Calls Try.prog 27 #[.slice none 0 0, .slice A4 KL.length c4] w4 (NewEvs w4 SL) := by
    rw [hSL.out]
    exact join_calls _ _ [] KL w4 (HP.out.keeps M4.kp (fun _ _ h => h)) (Own.rd encE_len M4.own) (by have := Hb.out; simp; omega)
  have Hj := Lib.hid hj
  have K4 := Lib.hid (ka.trans M4.kp (fun _ _ h => h))
  clear hj M4 ka
  go_wp2_with fail
  refine Hj.out.mono ?_
  rintro e w5 ⟨A5, c5, rfl, M5⟩
  have HM := Lib.hid (M5.back K4.out)
  clear M5
  go_wp2_with fail
  go_ret
  exact ⟨A5, c5, rfl, HM.out⟩

theorem strip_calls (mode thread : Int) (A : Option Addr) (c : Nat) (xs : List Ev) (w : World) (h : Rd encE 3 w (.slice A xs.length c) xs) (hl : xs.length * 24 ≤ 140737488351232) :
    Calls Try.prog 13 #[vesV mode thread A xs.length c] w (NewEvs w (preL mode thread ++ xs.filterMap fKeep)) := by
  have hkl := len_fm fKeep xs
  cases hh : holdsB mode <;> cases hr : vrunsB mode thread
  · exact strip_nn mode thread A _ c xs _ _ w h hl rfl hkl (by show _ = _; simp [preL, hh, hr]) hh hr
  · exact strip_nr mode thread A _ c xs _ _ w h hl rfl hkl (by show _ = _; simp [preL, hh, hr]) hh hr
  · exact strip_hn mode thread A _ c xs _ _ w h hl rfl hkl (by show _ = _; simp [preL, hh, hr]) hh hr
  · exact strip_hr mode thread A _ c xs _ _ w h hl rfl hkl (by show _ = _; simp [preL, hh, hr]) hh hr
end Go.Proofs.Ytpchhlhjmkkoiaa
