/- The law's line. -/
import Derived.Test.YthjefffefomioaaDoorTlI
import Derived.Deep.RegionHeld3
namespace Go.Proofs.YthjefffefomioaaDoor
open Go.RowKit
namespace Tl

theorem lineB1 (a b : Int) : lineB ⟨1, a, b⟩ = some (formW 0 ++ 32 :: (Lib.itoa a ++ 32 :: Lib.itoa b)) := by simp [lineB, formS, lineOf, numsB]
theorem lineB3 (a b : Int) : lineB ⟨3, a, b⟩ = some (formW 2 ++ 32 :: (Lib.itoa a ++ 32 :: Lib.itoa b)) := by simp [lineB, formS, lineOf, numsB]
theorem lineB2 (a b : Int) : lineB ⟨2, a, b⟩ = if a = 0 ∧ b = 0 then some (formW 1) else none := by
  by_cases ha : a = 0 <;> by_cases hb : b = 0 <;> simp [lineB, formS, lineOf, numsB, ha, hb]
theorem lineB6 (a b : Int) : lineB ⟨6, a, b⟩ = if a = 0 ∧ b = 0 then some (formW 5) else none := by
  by_cases ha : a = 0 <;> by_cases hb : b = 0 <;> simp [lineB, formS, lineOf, numsB, ha, hb]
theorem lineB4 (a b : Int) : lineB ⟨4, a, b⟩ = if b = 0 then some (formW 3 ++ 32 :: Lib.itoa a) else none := by
  by_cases h : b = 0 <;> simp [lineB, formS, lineOf, numsB, h]
theorem lineB5 (a b : Int) : lineB ⟨5, a, b⟩ = if b = 0 then some (formW 4 ++ 32 :: Lib.itoa a) else none := by
  by_cases h : b = 0 <;> simp [lineB, formS, lineOf, numsB, h]

/-- What the law's line answers. -/
def LineP (r : Option (List UInt8)) (w : World) (e : Ending) (w' : World) : Prop :=
  ∃ (o : List UInt8) (t : Bool), e = .returned (.tuple #[S o, .bool t]) ∧ (∀ l, r = some l → o = l ∧ t = true) ∧ (r = none → t = false) ∧ Keeps NoBlock w w'

theorem lineP_some {l : List UInt8} {w w' : World} (k : Keeps NoBlock w w') : LineP (some l) w (.returned (.tuple #[S l, .bool true])) w' := ⟨l, true, rfl, (fun _ e => ⟨Option.some.inj e, rfl⟩), nofun, k⟩
theorem lineP_none {l : List UInt8} {w w' : World} (k : Keeps NoBlock w w') : LineP none w (.returned (.tuple #[S l, .bool false])) w' := ⟨l, false, rfl, nofun, (fun _ => rfl), k⟩

theorem lineP_no {l : List UInt8} {t : Bool} {w w' : World} (h : t = false) (k : Keeps NoBlock w w') : LineP none w (.returned (.tuple #[S l, .bool t])) w' := by
  subst h; exact lineP_none k

theorem held_next {w1 W w2 : World} {q : Nat} {A B : Value} (hlt : q < w1.heap.size) (h : W.cell? ⟨q, 1, none⟩ = some A ∧ W.cell? ⟨q, 2, none⟩ = some B ∧ Keeps NoBlock w1 W) (k : Keeps NoBlock W w2) : w2.cell? ⟨q, 1, none⟩ = some A ∧ w2.cell? ⟨q, 2, none⟩ = some B ∧ Keeps NoBlock w1 w2 := by
  obtain ⟨h1, h2, h3⟩ := h
  have hl : q < W.heap.size := Nat.lt_of_lt_of_le hlt h3.size
  exact ⟨(k.cell hl (fun e => e)).trans h1, (k.cell hl (fun e => e)).trans h2, h3.trans k (fun _ _ e => e)⟩

set_option maxRecDepth 100000 in
set_option maxHeartbeats 1000000 in
theorem lawline1 (a b : Int) (ha : Fit a) (hb : Fit b) (w : World) : Calls Tryd.prog 13 #[.agg #[.int .i64 1, .int .i64 a, .int .i64 b]] w (LineP (lineB ⟨1, a, b⟩) w) := by
  rw [lineB1]
  have hadd := s_add
  have hla := Lib.itoa_length_le a ha.1 ha.2
  have hlb := Lib.itoa_length_le b hb.1 hb.2
  have c1 : ¬ 9223372036854775807 < 5 + (Lib.itoa a).length := by omega
  have c2 : ¬ 9223372036854775807 < (Lib.itoa a).length + 1 + 1 + 1 + 1 + 1 + 1 := by omega
  have c3 : ¬ 9223372036854775807 < (Lib.itoa a).length + 1 + 1 + 1 + 1 + 1 + 1 + (Lib.itoa b).length := by omega
  clear hla hlb
  go_enter Tryd.func13, Tryd.ntmps13
  go_wp2_with fail
  generalize hW : World.alloc w _ = w1
  have k1 : Keeps NoBlock w w1 := by rw [← hW]; exact (Keeps.refl _ _).alloc _
  have b1 : w1.heap[w.heap.size]? = some (.cells #[.int .i64 (1), .int .i64 (a), .int .i64 (b)] 23 (0, 0)) := by rw [← hW]; exact block_alloc_new _ _
  have y0 : w1.cell? ⟨w.heap.size, 0, none⟩ = some (.int .i64 (1)) := cell_of_block (o := 0) b1 rfl
  have y1 : w1.cell? ⟨w.heap.size, 1, none⟩ = some (.int .i64 (a)) := cell_of_block (o := 1) b1 rfl
  have y2 : w1.cell? ⟨w.heap.size, 2, none⟩ = some (.int .i64 (b)) := cell_of_block (o := 2) b1 rfl
  have hlt : w.heap.size < w1.heap.size := lt_of_block b1
  have K1 := Lib.hid k1
  clear hW k1 b1
  go_region_held3 (fun w' => w'.cell? ⟨w.heap.size, 1, none⟩ = some (.int .i64 a) ∧ w'.cell? ⟨w.heap.size, 2, none⟩ = some (.int .i64 b) ∧ Keeps NoBlock w1 w')
    (first | exact ⟨y1, y2, (Keeps.refl _ _).drew⟩ | exact held_next hlt (by assumption) k2)
    (first | (go_at_call 31; refine (digits_calls _ (by assumption) _).mono ?_; rintro e w2 ⟨rfl, k2⟩))
  rename_i hH
  have KH := Lib.hid hH.2.2
  clear hH k2
  go_wp2_with fail
  go_ret2
  exact lineP_some (K1.out.trans KH.out (fun _ _ e => e))

set_option maxRecDepth 100000 in
set_option maxHeartbeats 1000000 in
theorem lawline3 (a b : Int) (ha : Fit a) (hb : Fit b) (w : World) : Calls Tryd.prog 13 #[.agg #[.int .i64 3, .int .i64 a, .int .i64 b]] w (LineP (lineB ⟨3, a, b⟩) w) := by
  rw [lineB3]
  have hadd := s_add
  have hla := Lib.itoa_length_le a ha.1 ha.2
  have hlb := Lib.itoa_length_le b hb.1 hb.2
  have c1 : ¬ 9223372036854775807 < 5 + (Lib.itoa a).length := by omega
  have c2 : ¬ 9223372036854775807 < (Lib.itoa a).length + 1 + 1 + 1 + 1 + 1 + 1 := by omega
  have c3 : ¬ 9223372036854775807 < (Lib.itoa a).length + 1 + 1 + 1 + 1 + 1 + 1 + (Lib.itoa b).length := by omega
  clear hla hlb
  go_enter Tryd.func13, Tryd.ntmps13
  go_wp2_with fail
  generalize hW : World.alloc w _ = w1
  have k1 : Keeps NoBlock w w1 := by rw [← hW]; exact (Keeps.refl _ _).alloc _
  have b1 : w1.heap[w.heap.size]? = some (.cells #[.int .i64 (3), .int .i64 (a), .int .i64 (b)] 23 (0, 0)) := by rw [← hW]; exact block_alloc_new _ _
  have y0 : w1.cell? ⟨w.heap.size, 0, none⟩ = some (.int .i64 (3)) := cell_of_block (o := 0) b1 rfl
  have y1 : w1.cell? ⟨w.heap.size, 1, none⟩ = some (.int .i64 (a)) := cell_of_block (o := 1) b1 rfl
  have y2 : w1.cell? ⟨w.heap.size, 2, none⟩ = some (.int .i64 (b)) := cell_of_block (o := 2) b1 rfl
  have hlt : w.heap.size < w1.heap.size := lt_of_block b1
  have K1 := Lib.hid k1
  clear hW k1 b1
  go_region_held3 (fun w' => w'.cell? ⟨w.heap.size, 1, none⟩ = some (.int .i64 a) ∧ w'.cell? ⟨w.heap.size, 2, none⟩ = some (.int .i64 b) ∧ Keeps NoBlock w1 w')
    (first | exact ⟨y1, y2, (Keeps.refl _ _).drew⟩ | exact held_next hlt (by assumption) k2)
    (first | (go_at_call 31; refine (digits_calls _ (by assumption) _).mono ?_; rintro e w2 ⟨rfl, k2⟩))
  rename_i hH
  have KH := Lib.hid hH.2.2
  clear hH k2
  go_wp2_with fail
  go_ret2
  exact lineP_some (K1.out.trans KH.out (fun _ _ e => e))

set_option maxRecDepth 100000 in
set_option maxHeartbeats 1000000 in
theorem lawline4 (a b : Int) (ha : Fit a) (w : World) : Calls Tryd.prog 13 #[.agg #[.int .i64 4, .int .i64 a, .int .i64 b]] w (LineP (lineB ⟨4, a, b⟩) w) := by
  rw [lineB4]
  have hadd := s_add
  have hla := Lib.itoa_length_le a ha.1 ha.2
  have c1 : ¬ 9223372036854775807 < 8 + (Lib.itoa a).length := by omega
  clear hla
  by_cases h0 : b = 0
  · rw [if_pos h0]
    subst h0
    go_enter Tryd.func13, Tryd.ntmps13
    go_wp2_with fail
    generalize hW : World.alloc w _ = w1
    have k1 : Keeps NoBlock w w1 := by rw [← hW]; exact (Keeps.refl _ _).alloc _
    have b1 : w1.heap[w.heap.size]? = some (.cells #[.int .i64 (4), .int .i64 (a), .int .i64 (0)] 23 (0, 0)) := by rw [← hW]; exact block_alloc_new _ _
    have y0 : w1.cell? ⟨w.heap.size, 0, none⟩ = some (.int .i64 (4)) := cell_of_block (o := 0) b1 rfl
    have y1 : w1.cell? ⟨w.heap.size, 1, none⟩ = some (.int .i64 (a)) := cell_of_block (o := 1) b1 rfl
    have y2 : w1.cell? ⟨w.heap.size, 2, none⟩ = some (.int .i64 (0)) := cell_of_block (o := 2) b1 rfl
    have hlt : w.heap.size < w1.heap.size := lt_of_block b1
    have K1 := Lib.hid k1
    clear hW k1 b1
    go_region_held3 (fun w' => w'.cell? ⟨w.heap.size, 1, none⟩ = some (.int .i64 a) ∧ w'.cell? ⟨w.heap.size, 2, none⟩ = some (.int .i64 (0)) ∧ Keeps NoBlock w1 w')
      (first | exact ⟨y1, y2, (Keeps.refl _ _).drew⟩ | exact held_next hlt (by assumption) k2)
      (first | (go_at_call 31; refine (digits_calls _ (by assumption) _).mono ?_; rintro e w2 ⟨rfl, k2⟩))
    rename_i hH
    have KH := Lib.hid hH.2.2
    clear hH k2
    go_wp2_with fail
    go_ret2
    exact lineP_some (K1.out.trans KH.out (fun _ _ e => e))
  · rw [if_neg h0]
    have hz : (b == 0) = false := by simpa using h0
    go_enter Tryd.func13, Tryd.ntmps13
    go_wp2_with fail
    generalize hW : World.alloc w _ = w1
    have k1 : Keeps NoBlock w w1 := by rw [← hW]; exact (Keeps.refl _ _).alloc _
    have b1 : w1.heap[w.heap.size]? = some (.cells #[.int .i64 (4), .int .i64 (a), .int .i64 (b)] 23 (0, 0)) := by rw [← hW]; exact block_alloc_new _ _
    have y0 : w1.cell? ⟨w.heap.size, 0, none⟩ = some (.int .i64 (4)) := cell_of_block (o := 0) b1 rfl
    have y1 : w1.cell? ⟨w.heap.size, 1, none⟩ = some (.int .i64 (a)) := cell_of_block (o := 1) b1 rfl
    have y2 : w1.cell? ⟨w.heap.size, 2, none⟩ = some (.int .i64 (b)) := cell_of_block (o := 2) b1 rfl
    have hlt : w.heap.size < w1.heap.size := lt_of_block b1
    have K1 := Lib.hid k1
    clear hW k1 b1
    go_region_held3 (fun w' => w'.cell? ⟨w.heap.size, 1, none⟩ = some (.int .i64 a) ∧ w'.cell? ⟨w.heap.size, 2, none⟩ = some (.int .i64 (b)) ∧ Keeps NoBlock w1 w')
      (first | exact ⟨y1, y2, (Keeps.refl _ _).drew⟩ | exact held_next hlt (by assumption) k2)
      (first | (go_at_call 31; refine (digits_calls _ (by assumption) _).mono ?_; rintro e w2 ⟨rfl, k2⟩))
    rename_i hH
    have KH := Lib.hid hH.2.2
    clear hH k2
    go_wp2_with fail
    go_ret2
    exact lineP_none (K1.out.trans KH.out (fun _ _ e => e))

set_option maxRecDepth 100000 in
set_option maxHeartbeats 1000000 in
theorem lawline5 (a b : Int) (ha : Fit a) (w : World) : Calls Tryd.prog 13 #[.agg #[.int .i64 5, .int .i64 a, .int .i64 b]] w (LineP (lineB ⟨5, a, b⟩) w) := by
  rw [lineB5]
  have hadd := s_add
  have hla := Lib.itoa_length_le a ha.1 ha.2
  have c1 : ¬ 9223372036854775807 < 5 + (Lib.itoa a).length := by omega
  clear hla
  by_cases h0 : b = 0
  · rw [if_pos h0]
    subst h0
    go_enter Tryd.func13, Tryd.ntmps13
    go_wp2_with fail
    generalize hW : World.alloc w _ = w1
    have k1 : Keeps NoBlock w w1 := by rw [← hW]; exact (Keeps.refl _ _).alloc _
    have b1 : w1.heap[w.heap.size]? = some (.cells #[.int .i64 (5), .int .i64 (a), .int .i64 (0)] 23 (0, 0)) := by rw [← hW]; exact block_alloc_new _ _
    have y0 : w1.cell? ⟨w.heap.size, 0, none⟩ = some (.int .i64 (5)) := cell_of_block (o := 0) b1 rfl
    have y1 : w1.cell? ⟨w.heap.size, 1, none⟩ = some (.int .i64 (a)) := cell_of_block (o := 1) b1 rfl
    have y2 : w1.cell? ⟨w.heap.size, 2, none⟩ = some (.int .i64 (0)) := cell_of_block (o := 2) b1 rfl
    have hlt : w.heap.size < w1.heap.size := lt_of_block b1
    have K1 := Lib.hid k1
    clear hW k1 b1
    go_region_held3 (fun w' => w'.cell? ⟨w.heap.size, 1, none⟩ = some (.int .i64 a) ∧ w'.cell? ⟨w.heap.size, 2, none⟩ = some (.int .i64 (0)) ∧ Keeps NoBlock w1 w')
      (first | exact ⟨y1, y2, (Keeps.refl _ _).drew⟩ | exact held_next hlt (by assumption) k2)
      (first | (go_at_call 31; refine (digits_calls _ (by assumption) _).mono ?_; rintro e w2 ⟨rfl, k2⟩))
    rename_i hH
    have KH := Lib.hid hH.2.2
    clear hH k2
    go_wp2_with fail
    go_ret2
    exact lineP_some (K1.out.trans KH.out (fun _ _ e => e))
  · rw [if_neg h0]
    have hz : (b == 0) = false := by simpa using h0
    go_enter Tryd.func13, Tryd.ntmps13
    go_wp2_with fail
    generalize hW : World.alloc w _ = w1
    have k1 : Keeps NoBlock w w1 := by rw [← hW]; exact (Keeps.refl _ _).alloc _
    have b1 : w1.heap[w.heap.size]? = some (.cells #[.int .i64 (5), .int .i64 (a), .int .i64 (b)] 23 (0, 0)) := by rw [← hW]; exact block_alloc_new _ _
    have y0 : w1.cell? ⟨w.heap.size, 0, none⟩ = some (.int .i64 (5)) := cell_of_block (o := 0) b1 rfl
    have y1 : w1.cell? ⟨w.heap.size, 1, none⟩ = some (.int .i64 (a)) := cell_of_block (o := 1) b1 rfl
    have y2 : w1.cell? ⟨w.heap.size, 2, none⟩ = some (.int .i64 (b)) := cell_of_block (o := 2) b1 rfl
    have hlt : w.heap.size < w1.heap.size := lt_of_block b1
    have K1 := Lib.hid k1
    clear hW k1 b1
    go_region_held3 (fun w' => w'.cell? ⟨w.heap.size, 1, none⟩ = some (.int .i64 a) ∧ w'.cell? ⟨w.heap.size, 2, none⟩ = some (.int .i64 (b)) ∧ Keeps NoBlock w1 w')
      (first | exact ⟨y1, y2, (Keeps.refl _ _).drew⟩ | exact held_next hlt (by assumption) k2)
      (first | (go_at_call 31; refine (digits_calls _ (by assumption) _).mono ?_; rintro e w2 ⟨rfl, k2⟩))
    rename_i hH
    have KH := Lib.hid hH.2.2
    clear hH k2
    go_wp2_with fail
    go_ret2
    exact lineP_none (K1.out.trans KH.out (fun _ _ e => e))

set_option maxRecDepth 100000 in
set_option maxHeartbeats 1000000 in
theorem lawline2 (a b : Int) (w : World) : Calls Tryd.prog 13 #[.agg #[.int .i64 2, .int .i64 a, .int .i64 b]] w (LineP (lineB ⟨2, a, b⟩) w) := by
  rw [lineB2]
  by_cases h0 : a = 0
  · subst h0
    by_cases h1 : b = 0
    · subst h1
      rw [if_pos ⟨rfl, rfl⟩]
      go_enter Tryd.func13, Tryd.ntmps13
      go_wp2_with fail
      generalize hW : World.alloc w _ = w1
      have k1 : Keeps NoBlock w w1 := by rw [← hW]; exact (Keeps.refl _ _).alloc _
      have b1 : w1.heap[w.heap.size]? = some (.cells #[.int .i64 (2), .int .i64 (0), .int .i64 (0)] 23 (0, 0)) := by rw [← hW]; exact block_alloc_new _ _
      have y0 : w1.cell? ⟨w.heap.size, 0, none⟩ = some (.int .i64 (2)) := cell_of_block (o := 0) b1 rfl
      have y1 : w1.cell? ⟨w.heap.size, 1, none⟩ = some (.int .i64 (0)) := cell_of_block (o := 1) b1 rfl
      have y2 : w1.cell? ⟨w.heap.size, 2, none⟩ = some (.int .i64 (0)) := cell_of_block (o := 2) b1 rfl
      have hlt : w.heap.size < w1.heap.size := lt_of_block b1
      have K1 := Lib.hid k1
      clear hW k1 b1
      go_quiet (fail)
      go_wp2_with fail
      go_ret2
      exact lineP_some (by first | exact K1.out | exact K1.out.drew | (refine Keeps.trans K1.out ?_ (fun _ _ e => e); exact Keeps.drewN (Keeps.refl _ _) _))
    · rw [if_neg (by omega)]
      have hd : decide (b = 0) = false := decide_eq_false h1
      have hz : Hid ((b == 0) = false) := by show _ = _; simpa using h1
      go_enter Tryd.func13, Tryd.ntmps13
      go_wp2_with fail
      generalize hW : World.alloc w _ = w1
      have k1 : Keeps NoBlock w w1 := by rw [← hW]; exact (Keeps.refl _ _).alloc _
      have b1 : w1.heap[w.heap.size]? = some (.cells #[.int .i64 (2), .int .i64 (0), .int .i64 (b)] 23 (0, 0)) := by rw [← hW]; exact block_alloc_new _ _
      have y0 : w1.cell? ⟨w.heap.size, 0, none⟩ = some (.int .i64 (2)) := cell_of_block (o := 0) b1 rfl
      have y1 : w1.cell? ⟨w.heap.size, 1, none⟩ = some (.int .i64 (0)) := cell_of_block (o := 1) b1 rfl
      have y2 : w1.cell? ⟨w.heap.size, 2, none⟩ = some (.int .i64 (b)) := cell_of_block (o := 2) b1 rfl
      have hlt : w.heap.size < w1.heap.size := lt_of_block b1
      have K1 := Lib.hid k1
      clear hW k1 b1
      go_quiet (fail)
      go_wp2_with fail
      go_ret2
      exact lineP_no hz.out (by first | exact K1.out | exact K1.out.drew | (refine Keeps.trans K1.out ?_ (fun _ _ e => e); exact Keeps.drewN (Keeps.refl _ _) _))
  · rw [if_neg (by omega)]
    have hd : decide (a = 0) = false := decide_eq_false h0
    go_enter Tryd.func13, Tryd.ntmps13
    go_wp2_with fail
    generalize hW : World.alloc w _ = w1
    have k1 : Keeps NoBlock w w1 := by rw [← hW]; exact (Keeps.refl _ _).alloc _
    have b1 : w1.heap[w.heap.size]? = some (.cells #[.int .i64 (2), .int .i64 (a), .int .i64 (b)] 23 (0, 0)) := by rw [← hW]; exact block_alloc_new _ _
    have y0 : w1.cell? ⟨w.heap.size, 0, none⟩ = some (.int .i64 (2)) := cell_of_block (o := 0) b1 rfl
    have y1 : w1.cell? ⟨w.heap.size, 1, none⟩ = some (.int .i64 (a)) := cell_of_block (o := 1) b1 rfl
    have y2 : w1.cell? ⟨w.heap.size, 2, none⟩ = some (.int .i64 (b)) := cell_of_block (o := 2) b1 rfl
    have hlt : w.heap.size < w1.heap.size := lt_of_block b1
    have K1 := Lib.hid k1
    clear hW k1 b1
    go_quiet (fail)
    go_wp2_with fail
    go_ret2
    exact lineP_none (by first | exact K1.out | exact K1.out.drew | (refine Keeps.trans K1.out ?_ (fun _ _ e => e); exact Keeps.drewN (Keeps.refl _ _) _))

set_option maxRecDepth 100000 in
set_option maxHeartbeats 1000000 in
theorem lawline6 (a b : Int) (w : World) : Calls Tryd.prog 13 #[.agg #[.int .i64 6, .int .i64 a, .int .i64 b]] w (LineP (lineB ⟨6, a, b⟩) w) := by
  rw [lineB6]
  by_cases h0 : a = 0
  · subst h0
    by_cases h1 : b = 0
    · subst h1
      rw [if_pos ⟨rfl, rfl⟩]
      go_enter Tryd.func13, Tryd.ntmps13
      go_wp2_with fail
      generalize hW : World.alloc w _ = w1
      have k1 : Keeps NoBlock w w1 := by rw [← hW]; exact (Keeps.refl _ _).alloc _
      have b1 : w1.heap[w.heap.size]? = some (.cells #[.int .i64 (6), .int .i64 (0), .int .i64 (0)] 23 (0, 0)) := by rw [← hW]; exact block_alloc_new _ _
      have y0 : w1.cell? ⟨w.heap.size, 0, none⟩ = some (.int .i64 (6)) := cell_of_block (o := 0) b1 rfl
      have y1 : w1.cell? ⟨w.heap.size, 1, none⟩ = some (.int .i64 (0)) := cell_of_block (o := 1) b1 rfl
      have y2 : w1.cell? ⟨w.heap.size, 2, none⟩ = some (.int .i64 (0)) := cell_of_block (o := 2) b1 rfl
      have hlt : w.heap.size < w1.heap.size := lt_of_block b1
      have K1 := Lib.hid k1
      clear hW k1 b1
      go_quiet (fail)
      go_wp2_with fail
      go_ret2
      exact lineP_some (by first | exact K1.out | exact K1.out.drew | (refine Keeps.trans K1.out ?_ (fun _ _ e => e); exact Keeps.drewN (Keeps.refl _ _) _))
    · rw [if_neg (by omega)]
      have hd : decide (b = 0) = false := decide_eq_false h1
      have hz : Hid ((b == 0) = false) := by show _ = _; simpa using h1
      go_enter Tryd.func13, Tryd.ntmps13
      go_wp2_with fail
      generalize hW : World.alloc w _ = w1
      have k1 : Keeps NoBlock w w1 := by rw [← hW]; exact (Keeps.refl _ _).alloc _
      have b1 : w1.heap[w.heap.size]? = some (.cells #[.int .i64 (6), .int .i64 (0), .int .i64 (b)] 23 (0, 0)) := by rw [← hW]; exact block_alloc_new _ _
      have y0 : w1.cell? ⟨w.heap.size, 0, none⟩ = some (.int .i64 (6)) := cell_of_block (o := 0) b1 rfl
      have y1 : w1.cell? ⟨w.heap.size, 1, none⟩ = some (.int .i64 (0)) := cell_of_block (o := 1) b1 rfl
      have y2 : w1.cell? ⟨w.heap.size, 2, none⟩ = some (.int .i64 (b)) := cell_of_block (o := 2) b1 rfl
      have hlt : w.heap.size < w1.heap.size := lt_of_block b1
      have K1 := Lib.hid k1
      clear hW k1 b1
      go_quiet (fail)
      go_wp2_with fail
      go_ret2
      exact lineP_no hz.out (by first | exact K1.out | exact K1.out.drew | (refine Keeps.trans K1.out ?_ (fun _ _ e => e); exact Keeps.drewN (Keeps.refl _ _) _))
  · rw [if_neg (by omega)]
    have hd : decide (a = 0) = false := decide_eq_false h0
    go_enter Tryd.func13, Tryd.ntmps13
    go_wp2_with fail
    generalize hW : World.alloc w _ = w1
    have k1 : Keeps NoBlock w w1 := by rw [← hW]; exact (Keeps.refl _ _).alloc _
    have b1 : w1.heap[w.heap.size]? = some (.cells #[.int .i64 (6), .int .i64 (a), .int .i64 (b)] 23 (0, 0)) := by rw [← hW]; exact block_alloc_new _ _
    have y0 : w1.cell? ⟨w.heap.size, 0, none⟩ = some (.int .i64 (6)) := cell_of_block (o := 0) b1 rfl
    have y1 : w1.cell? ⟨w.heap.size, 1, none⟩ = some (.int .i64 (a)) := cell_of_block (o := 1) b1 rfl
    have y2 : w1.cell? ⟨w.heap.size, 2, none⟩ = some (.int .i64 (b)) := cell_of_block (o := 2) b1 rfl
    have hlt : w.heap.size < w1.heap.size := lt_of_block b1
    have K1 := Lib.hid k1
    clear hW k1 b1
    go_quiet (fail)
    go_wp2_with fail
    go_ret2
    exact lineP_none (by first | exact K1.out | exact K1.out.drew | (refine Keeps.trans K1.out ?_ (fun _ _ e => e); exact Keeps.drewN (Keeps.refl _ _) _))

set_option maxRecDepth 100000 in
theorem lawline_none (k a b : Int) (hk : ¬ (1 ≤ k ∧ k ≤ 6)) (w : World) : Calls Tryd.prog 13 #[.agg #[.int .i64 k, .int .i64 a, .int .i64 b]] w (LineP (lineB ⟨k, a, b⟩) w) := by
  rw [line_bad hk]
  have h1 : k ≠ 1 := by omega
  have h2 : k ≠ 2 := by omega
  have h3 : k ≠ 3 := by omega
  have h4 : k ≠ 4 := by omega
  have h5 : k ≠ 5 := by omega
  have h6 : k ≠ 6 := by omega
  clear hk
  go_enter Tryd.func13, Tryd.ntmps13
  go_wp2_with fail
  generalize hW : World.alloc w _ = w1
  have k1 : Keeps NoBlock w w1 := by rw [← hW]; exact (Keeps.refl _ _).alloc _
  have b1 : w1.heap[w.heap.size]? = some (.cells #[.int .i64 (k), .int .i64 (a), .int .i64 (b)] 23 (0, 0)) := by rw [← hW]; exact block_alloc_new _ _
  have y0 : w1.cell? ⟨w.heap.size, 0, none⟩ = some (.int .i64 (k)) := cell_of_block (o := 0) b1 rfl
  have y1 : w1.cell? ⟨w.heap.size, 1, none⟩ = some (.int .i64 (a)) := cell_of_block (o := 1) b1 rfl
  have y2 : w1.cell? ⟨w.heap.size, 2, none⟩ = some (.int .i64 (b)) := cell_of_block (o := 2) b1 rfl
  have hlt : w.heap.size < w1.heap.size := lt_of_block b1
  have K1 := Lib.hid k1
  clear hW k1 b1
  go_wp2_with fail
  go_ret2
  exact lineP_none K1.out

theorem lawline_calls (x : Stp) (ha : Fit x.a) (hb : Fit x.b) (w : World) : Calls Tryd.prog 13 #[.agg #[.int .i64 x.kind, .int .i64 x.a, .int .i64 x.b]] w (LineP (lineB x) w) := by
  obtain ⟨k, a, b⟩ := x
  simp only [] at ha hb ⊢
  by_cases hk : 1 ≤ k ∧ k ≤ 6
  · obtain rfl | rfl | rfl | rfl | rfl | rfl : k = 1 ∨ k = 2 ∨ k = 3 ∨ k = 4 ∨ k = 5 ∨ k = 6 := by omega
    · exact lawline1 a b ha hb w
    · exact lawline2 a b w
    · exact lawline3 a b ha hb w
    · exact lawline4 a b ha w
    · exact lawline5 a b ha w
    · exact lawline6 a b w
  · exact lawline_none k a b hk w

end Tl
end Go.Proofs.YthjefffefomioaaDoor
