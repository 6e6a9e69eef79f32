/- Package tale: Line. -/
import Derived.Test.YthjefffefomioaaDoorTlE
import Derived.Test.YthjefffefomioaaDoorApp
namespace Go.Proofs.YthjefffefomioaaDoor
open Go.RowKit
namespace Tl

def retLine : Option (List UInt8) → Ending
  | some l => .returned (.tuple #[S l, .int .i64 0])
  | none => .returned (.tuple #[S [], .int .i64 1])

theorem s_add (l m : List UInt8) : (⟨l.toArray⟩ : ByteArray) ++ ⟨m.toArray⟩ = ⟨(l ++ m).toArray⟩ := by
  apply ByteArray.ext
  simp

theorem litN {w : World} {q k : Nat} {xs : List Int} {A : Option Addr} {c : Nat} (h : w.heap[q]? = some (.cells (xs.map (Value.int .i64)).toArray 3 (0, 0))) (hA : 0 < xs.length - k → A = some ⟨q, 0 + k * 1, none⟩) : ReadsI .i64 w (.slice A (xs.length - k) c) (xs.drop k) := by
  refine ⟨A, q, 0 + k * 1, c, by rw [List.length_drop], fun h0 => ⟨hA (by rw [List.length_drop] at h0; exact h0), lt_of_block h⟩, fun j y hy => ?_⟩
  rw [List.getElem?_drop] at hy
  refine cell_of_block (o := 0 + k * 1 + j) h ?_
  rw [show 0 + k * 1 + j = k + j by omega]
  simp [hy]

theorem eN : Elem Tryd.prog 47 3 (.int .i64 0) 1 8 := Elem.mk' (by kernel_rfl) (by kernel_rfl) rfl (by decide)

theorem formW_len (k : Nat) : (formW k).length ≤ 7 := by
  unfold formW
  split <;> decide

theorem numsB_len (l : List Int) (h : ∀ y ∈ l, Fit y) : (numsB l).length ≤ 22 * l.length := by
  induction l with
  | nil => simp [numsB]
  | cons a l ih =>
    have h1 := h a (List.mem_cons_self ..)
    have := Lib.itoa_length_le a h1.1 h1.2
    have := ih (fun y hy => h y (List.mem_cons_of_mem _ hy))
    simp [numsB] at this ⊢
    omega

theorem line_bad {x : Stp} (h : ¬ (1 ≤ x.kind ∧ x.kind ≤ 6)) : lineB x = none := by
  unfold lineB
  rw [if_neg h]

theorem line_at {k : Nat} {a b : Int} (hk : k < 6) : lineB ⟨(k : Int) + 1, a, b⟩ = (if ([a, b].drop (formS k)).any (fun n => n != 0) then none else some (lineOf k ([a, b].take (formS k)))) := by
  unfold lineB
  have e : ((k : Int) + 1 - 1).toNat = k := by omega
  rw [if_pos (by simp only []; omega)]
  simp only [e]

set_option maxRecDepth 100000 in
set_option maxHeartbeats 1000000 in
theorem line_calls (x : Stp) (ha : Fit x.a) (hb : Fit x.b) (w : World) (hg : Gl w) : Calls Tryd.prog 12 #[.agg #[.int .i64 x.kind, .int .i64 x.a, .int .i64 x.b]] w fun e w' => e = retLine (lineB x) ∧ Keeps NoBlock w w' := by
  by_cases hk : 1 ≤ x.kind ∧ x.kind ≤ 6
  · obtain ⟨kind, a, b⟩ := x
    simp only [] at ha hb hk
    obtain ⟨k, rfl⟩ : ∃ k : Nat, kind = (k : Int) + 1 := ⟨(kind - 1).toNat, by omega⟩
    have hk6 : k < 6 := by omega
    rw [line_at hk6]
    obtain ⟨n, hn⟩ : ∃ n, formS k = n := ⟨_, rfl⟩
    have hn2 : n ≤ 2 := by rw [← hn]; exact formS_le k
    obtain ⟨ys, hys⟩ : ∃ ys, [a, b] = ys := ⟨_, rfl⟩
    have hyl : ys.length = 2 := by rw [← hys]; rfl
    rw [hn, hys]
    obtain ⟨r, hr⟩ : ∃ r, (if (ys.drop n).any (fun n => n != 0) then none else some (lineOf k (ys.take n))) = r := ⟨_, rfl⟩
    rw [hr]
    have HR := Lib.hid hr
    have hyf : Hid (∀ y ∈ ys, Fit y) := fun y hy => by
      rw [← hys] at hy
      simp only [List.mem_cons, List.not_mem_nil, or_false] at hy
      rcases hy with rfl | rfl <;> assumption
    have HG := Lib.hid hg
    have hwk : IntKind.i64.wrap ((k : Int) + 1 - 1) = (k : Int) := by rw [IntKind.wrap_i64]; omega
    clear hg ha hb hr
    go_enter Tryd.func12, Tryd.ntmps12
    go_wp2_with fail
    generalize hW : World.alloc w _ = w1
    have k1 : Hid (Keeps NoBlock w w1) := by show Keeps _ _ _; rw [← hW]; exact (Keeps.refl _ _).alloc _
    have b1 : Hid (w1.heap[w.heap.size]? = some (.cells #[.int .i64 ((k : Int) + 1), .int .i64 a, .int .i64 b] 23 (0, 0))) := by show _ = _; rw [← hW]; exact block_alloc_new _ _
    clear hW
    refine (forms_calls w1).mono ?_
    rintro e w2 ⟨rfl, hw2⟩
    have k2 : Hid (Keeps NoBlock w w2) := by show Keeps _ _ _; rw [hw2]; exact k1.out.alloc _
    have b2 : w2.heap[w1.heap.size]? = some (.cells formCells 61 (0, 0)) := by rw [hw2]; exact block_alloc_new _ _
    have s2 : w2.heap[w.heap.size]? = some (.cells #[.int .i64 ((k : Int) + 1), .int .i64 a, .int .i64 b] 23 (0, 0)) := by rw [hw2]; exact block_alloc_old b1.out
    obtain ⟨z0, z1⟩ := form_at b2 k hk6
    rw [hn] at z1
    obtain ⟨wd, hwd⟩ : ∃ wd, formW k = wd := ⟨_, rfl⟩
    rw [hwd] at z0
    have y0 : w2.cell? ⟨w.heap.size, 0, none⟩ = some (.int .i64 ((k : Int) + 1)) := cell_of_block (o := 0) s2 rfl
    have y1 : w2.cell? ⟨w.heap.size, 1, none⟩ = some (.int .i64 a) := cell_of_block (o := 1) s2 rfl
    have y2 : w2.cell? ⟨w.heap.size, 2, none⟩ = some (.int .i64 b) := cell_of_block (o := 2) s2 rfl
    have h1z : (1 : Int) ≤ (k : Int) + 1 := by omega
    have h6z : (k : Int) + 1 ≤ 6 := by omega
    have hk0 : (0 : Int) ≤ (k : Int) := by omega
    have hk6' : (k : Int) < 6 := by omega
    have hlt1 := lt_of_block b2
    have hlt0 := lt_of_block s2
    have HWD := Lib.hid hwd
    have HYS := Lib.hid hys
    have HN := Lib.hid hn
    clear hw2 k1 b1 b2 s2 hwd hys hn hk6
    go_upto_region 6 with fail
    generalize hW : World.alloc (World.alloc w2 _) _ = w4
    have k4 : Keeps NoBlock w w4 := by rw [← hW]; exact (k2.out.alloc _).alloc _
    have f4 : w4.heap[w2.heap.size]? = some (.cells #[S wd, .int .i64 (n : Nat)] 61 (0, 0)) := by rw [← hW]; exact block_alloc_old (block_alloc_new _ _)
    have n4 : w4.heap[w2.heap.size + 1]? = some (.cells #[.int .i64 a, .int .i64 b] 3 (0, 0)) := by rw [← hW]; exact blk_new (by simp)
    have n4' : w4.heap[w2.heap.size + 1]? = some (.cells (ys.map (Value.int .i64)).toArray 3 (0, 0)) := by rw [n4, ← HYS.out]; rfl
    have q0 : w4.cell? ⟨w2.heap.size, 0, none⟩ = some (S wd) := cell_of_block (o := 0) f4 rfl
    have q1 : w4.cell? ⟨w2.heap.size, 1, none⟩ = some (.int .i64 (n : Nat)) := cell_of_block (o := 1) f4 rfl
    obtain ⟨A2, hs2, hA2⟩ := run_slice_from (P := Tryd.prog) eN (some ⟨w2.heap.size + 1, 0, none⟩) 2 2 n (w2.heap.size + 1) 0 hn2 (Nat.le_refl _) (fun _ => rfl)
    have hcn := Lib.hid (cont_calls w4 (.slice A2 (ys.length - n) (2 - n)) (ys.drop n) (litN n4' (by rw [hyl]; exact hA2)) (by rw [List.length_drop]; omega))
    rw [hyl] at hcn
    have K4 := Lib.hid k4
    have F4 := Lib.hid f4
    have N4 := Lib.hid n4'
    clear hW k4 f4 n4 n4' y0 y1 y2 z0 z1 hlt1 hlt0 k2 hA2
    go_wp2_with fail
    refine hcn.out.mono ?_
    rintro e w5 ⟨rfl, k5⟩
    have K5 := Lib.hid (K4.out.trans k5 (fun _ _ e => e))
    have f5 := (k5.block _ (lt_of_block F4.out) (fun e => e)).trans F4.out
    have n5 := (k5.block _ (lt_of_block N4.out) (fun e => e)).trans N4.out
    clear k5 q0 q1 hs2 hcn
    cases hany : (ys.drop n).any (fun n => n != 0) with
    | true =>
      obtain rfl : none = r := by have := HR.out; rw [hany, if_pos rfl] at this; exact this
      clear hany
      go_wp2_with fail
      go_ret2
      exact ⟨rfl, K5.out⟩
    | false =>
      obtain rfl : some (lineOf k (ys.take n)) = r := by have := HR.out; rw [hany, if_neg (by simp)] at this; exact this
      clear hany
      have q0 : w5.cell? ⟨w2.heap.size, 0, none⟩ = some (S wd) := cell_of_block (o := 0) f5 rfl
      have q1 : w5.cell? ⟨w2.heap.size, 1, none⟩ = some (.int .i64 (n : Nat)) := cell_of_block (o := 1) f5 rfl
      have hs1 := run_slice_to (P := Tryd.prog) eN (some ⟨w2.heap.size + 1, 0, none⟩) 2 2 n hn2
      have N5 := Lib.hid n5
      clear f5 n5
      go_wp2_with fail
      go_loopw [7, 44] (fun u i wr => ∃ j : Nat, j ≤ n ∧ i = .int .i64 j ∧ u = S (wd ++ numsB (ys.take j)) ∧ Keeps NoBlock w5 wr) (fun _ i _ => n - (intOf i).toNat)
      case atStart => exact ⟨0, Nat.zero_le _, rfl, by simp [numsB], Keeps.refl _ _⟩
      case round =>
        obtain ⟨j, hj, rfl, rfl, hkj⟩ := hrel
        have HK := Lib.hid hkj
        clear hkj
        have hwj : IntKind.i64.wrap ((j : Int) + 1) = (j : Int) + 1 := by rw [IntKind.wrap_i64]; omega
        by_cases hlt : j < n
        · obtain ⟨y, hy⟩ : ∃ y, ys[j]? = some y := ⟨_, List.getElem?_eq_getElem (by omega)⟩
          have hcy : wr.cell? ⟨w2.heap.size + 1, j, none⟩ = some (.int .i64 y) := by
            have nj := (HK.out.block _ (lt_of_block N5.out) (fun e => e)).trans N5.out
            exact cell_of_block nj (by simp [hy])
          have hyb := hyf.out y (List.mem_of_getElem? hy)
          have hitoa := Lib.hid (itoa_calls y hyb.1 hyb.2 wr (HG.out.on (K5.out.trans HK.out (fun _ _ e => e))))
          have hnext : Hid (numsB (ys.take (j + 1)) = numsB (ys.take j) ++ 32 :: Lib.itoa y) := by
            show _ = _
            rw [List.take_add_one, hy]
            simp [numsB]
          have hj0 : (0 : Int) ≤ (j : Int) := by omega
          have hjn : (j : Int) < (n : Int) := by omega
          have hadd := s_add
          have hl1 := Lib.itoa_length_le y hyb.1 hyb.2
          have hl2 := numsB_len (ys.take j) (fun y hy => hyf.out y (List.mem_of_mem_take hy))
          rw [List.length_take] at hl2
          have hl3 := formW_len k
          rw [HWD.out] at hl3
          have hb1 : ¬ 9223372036854775807 < 1 + (Lib.itoa y).length := by omega
          have hb2 : ¬ 9223372036854775807 < wd.length + (numsB (ys.take j)).length + ((Lib.itoa y).length + 1) := by omega
          clear hy hyb hl1 hl2 hl3
          go_wp2_with fail
          refine hitoa.out.mono ?_
          rintro e w6 ⟨rfl, k6⟩
          have K6 := Lib.hid (HK.out.trans k6 (fun _ _ e => e))
          clear k6
          go_wp2_with fail
          exact ⟨⟨j + 1, by omega, by simp, by rw [hnext.out], K6.out⟩, by simp [intOf]; omega⟩
        · obtain rfl : j = n := by omega
          go_wp2_with fail
          go_ret2
          exact ⟨by rw [← HWD.out]; rfl, K5.out.trans HK.out (fun _ _ e => e)⟩
  · rw [line_bad hk]
    obtain ⟨kind, a, b⟩ := x
    simp only [] at hk
    clear hg ha hb
    by_cases h1 : kind < 1
    · clear hk
      go_enter Tryd.func12, Tryd.ntmps12
      go_wp2_with fail
      generalize hW : World.alloc w _ = w1
      have k1 : Keeps NoBlock w w1 := by rw [← hW]; exact (Keeps.refl _ _).alloc _
      have b1 : w1.heap[w.heap.size]? = some (.cells #[.int .i64 kind, .int .i64 a, .int .i64 b] 23 (0, 0)) := by rw [← hW]; exact block_alloc_new _ _
      clear hW
      refine (forms_calls w1).mono ?_
      rintro e w2 ⟨rfl, rfl⟩
      have y0 : (w1.alloc (.cells formCells 61 (0, 0))).cell? ⟨w.heap.size, 0, none⟩ = some (.int .i64 kind) := cell_of_block (o := 0) (block_alloc_old b1) rfl
      have K2 := Lib.hid (k1.alloc (.cells formCells 61 (0, 0)))
      generalize World.alloc w1 _ = w2 at y0 K2 ⊢
      clear b1 k1
      go_wp2_with fail
      go_ret2
      exact ⟨rfl, K2.out⟩
    · have h2 : 6 < kind := by omega
      have h1' : (1 : Int) ≤ kind := by omega
      clear hk h1
      go_enter Tryd.func12, Tryd.ntmps12
      go_wp2_with fail
      generalize hW : World.alloc w _ = w1
      have k1 : Keeps NoBlock w w1 := by rw [← hW]; exact (Keeps.refl _ _).alloc _
      have b1 : w1.heap[w.heap.size]? = some (.cells #[.int .i64 kind, .int .i64 a, .int .i64 b] 23 (0, 0)) := by rw [← hW]; exact block_alloc_new _ _
      clear hW
      refine (forms_calls w1).mono ?_
      rintro e w2 ⟨rfl, rfl⟩
      have y0 : (w1.alloc (.cells formCells 61 (0, 0))).cell? ⟨w.heap.size, 0, none⟩ = some (.int .i64 kind) := cell_of_block (o := 0) (block_alloc_old b1) rfl
      have K2 := Lib.hid (k1.alloc (.cells formCells 61 (0, 0)))
      generalize World.alloc w1 _ = w2 at y0 K2 ⊢
      clear b1 k1
      go_wp2_with fail
      go_ret2
      exact ⟨rfl, K2.out⟩

end Tl
end Go.Proofs.YthjefffefomioaaDoor
