/- Package sched: entries by a seed. -/
import Derived.Test.YtlnfjjbfdbcgbaaSdA
namespace Go.Proofs.Ytlnfjjbfdbcgbaa
open Go.RowKit
namespace Sd

/-- The row of numbers of a seed. -/
def nx (s : Int) : Int := IntKind.u64.wrap (IntKind.u64.wrap (s * 6364136223846793005) + 1442695040888963407)
def hi (s : Int) : Int := s / 8589934592

theorem u64_bound (z : Int) : 0 ≤ IntKind.u64.wrap z ∧ IntKind.u64.wrap z < 18446744073709551616 := by
  have h : IntKind.u64.wrap z = z % 18446744073709551616 := rfl
  rw [h]
  exact ⟨Int.emod_nonneg _ (by decide), Int.emod_lt_of_pos _ (by decide)⟩

theorem hi_bound (s : Int) : 0 ≤ hi (nx s) ∧ hi (nx s) < 2147483648 := by
  have h := u64_bound (IntKind.u64.wrap (s * 6364136223846793005) + 1442695040888963407)
  unfold hi nx
  omega

theorem wrap_hi (s : Int) : wrap64 (hi (nx s)) = hi (nx s) := by
  have := hi_bound s
  unfold wrap64; omega

theorem next_calls (q : Nat) (s : Int) (w : World) (hb : w.heap[q]? = some (.cells #[.int .u64 s] 59 (0, 0))) : Calls Try.prog 32 #[.pointer (some ⟨q, 0, none⟩)] w fun e w' => e = .returned (.int .i64 (hi (nx s))) ∧ w.setCell ⟨q, 0, none⟩ (.int .u64 (nx s)) = w' := by
  have c0 := cell_of_block hb (o := 0) rfl
  have f0 := frozen_of_block hb (o := 0)
  have z0 := lt_of_block hb
  have Hw := Lib.hid (wrap_hi s)
  clear hb
  go_enter Try.func32, Try.ntmps32
  go_wp2
  go_ret
  exact ⟨congrArg (fun z => Ending.returned (.int .i64 z)) Hw.out, rfl⟩

def entryS (y p s : Int) : St := if y % 16 = 0 then ⟨2, 0, 0⟩ else if y % 16 = 1 then ⟨6, 0, 0⟩ else if y % 16 = 2 then ⟨5, y / 16 % s, 0⟩ else if y % 16 = 3 then ⟨3, y / 16 % s, y / 65536⟩ else if y % 16 = 4 then ⟨4, y / 16 % p, 0⟩ else ⟨1, y / 16 % p, y / 65536⟩

theorem entry_calls (y p s : Int) (w : World) (h0 : 0 ≤ y) (h1 : y < 2147483648) (hp : 1 ≤ p) (hp2 : p ≤ 64) (hs : 1 ≤ s) (hs2 : s ≤ 64) : Calls Try.prog 31 #[.int .i64 y, .int .i64 p, .int .i64 s] w fun e w' => e = .returned (stV (entryS y p s)) ∧ Keeps NoBlock w w' := by
  have hp0 : (p == 0) = false := by rw [beq_eq_false_iff_ne]; omega
  have hs0 : (s == 0) = false := by rw [beq_eq_false_iff_ne]; omega
  rcases (by omega : y % 16 = 0 ∨ y % 16 = 1 ∨ y % 16 = 2 ∨ y % 16 = 3 ∨ y % 16 = 4 ∨ (y % 16 ≠ 0 ∧ y % 16 ≠ 1 ∧ y % 16 ≠ 2 ∧ y % 16 ≠ 3 ∧ y % 16 ≠ 4)) with h | h | h | h | h | ⟨a0, a1, a2, a3, a4⟩
  · have hE : entryS y p s = ⟨2, 0, 0⟩ := by unfold entryS; rw [if_pos h]
    have HE := Lib.hid hE
    clear hE
    go_enter Try.func31, Try.ntmps31
    go_wp2
    refine bodyPost_ret (v := stV ⟨2, 0, 0⟩) (by simp [results, Try.results31, go_sem]) rfl ?_
    exact ⟨by rw [HE.out], (Keeps.refl _ _).alloc _⟩
  · have hE : entryS y p s = ⟨6, 0, 0⟩ := by unfold entryS; rw [if_neg (by omega), if_pos h]
    have HE := Lib.hid hE
    clear hE
    go_enter Try.func31, Try.ntmps31
    go_wp2
    refine bodyPost_ret (v := stV ⟨6, 0, 0⟩) (by simp [results, Try.results31, go_sem]) rfl ?_
    exact ⟨by rw [HE.out], (Keeps.refl _ _).alloc _⟩
  · have hE : entryS y p s = ⟨5, y / 16 % s, 0⟩ := by unfold entryS; rw [if_neg (by omega), if_neg (by omega), if_pos h]
    have HE := Lib.hid hE
    clear hE
    go_enter Try.func31, Try.ntmps31
    go_wp2
    refine bodyPost_ret (v := stV ⟨5, y / 16 % s, 0⟩) (by simp [results, Try.results31, go_sem]) rfl ?_
    exact ⟨by rw [HE.out], (Keeps.refl _ _).alloc _⟩
  · have hE : entryS y p s = ⟨3, y / 16 % s, y / 65536⟩ := by unfold entryS; rw [if_neg (by omega), if_neg (by omega), if_neg (by omega), if_pos h]
    have HE := Lib.hid hE
    clear hE
    go_enter Try.func31, Try.ntmps31
    go_wp2
    refine bodyPost_ret (v := stV ⟨3, y / 16 % s, y / 65536⟩) (by simp [results, Try.results31, go_sem]) rfl ?_
    exact ⟨by rw [HE.out], (Keeps.refl _ _).alloc _⟩
  · have hE : entryS y p s = ⟨4, y / 16 % p, 0⟩ := by unfold entryS; rw [if_neg (by omega), if_neg (by omega), if_neg (by omega), if_neg (by omega), if_pos h]
    have HE := Lib.hid hE
    clear hE
    go_enter Try.func31, Try.ntmps31
    go_wp2
    refine bodyPost_ret (v := stV ⟨4, y / 16 % p, 0⟩) (by simp [results, Try.results31, go_sem]) rfl ?_
    exact ⟨by rw [HE.out], (Keeps.refl _ _).alloc _⟩
  · have hE : entryS y p s = ⟨1, y / 16 % p, y / 65536⟩ := by unfold entryS; rw [if_neg a0, if_neg a1, if_neg a2, if_neg a3, if_neg a4]
    have HE := Lib.hid hE
    have b0 : (y % 16 == 0) = false := beq_eq_false_iff_ne.2 a0
    have b1 : (y % 16 == 1) = false := beq_eq_false_iff_ne.2 a1
    have b2 : (y % 16 == 2) = false := beq_eq_false_iff_ne.2 a2
    have b3 : (y % 16 == 3) = false := beq_eq_false_iff_ne.2 a3
    have b4 : (y % 16 == 4) = false := beq_eq_false_iff_ne.2 a4
    clear hE a0 a1 a2 a3 a4
    go_enter Try.func31, Try.ntmps31
    go_wp2
    refine bodyPost_ret (v := stV ⟨1, y / 16 % p, y / 65536⟩) (by simp [results, Try.results31, go_sem]) rfl ?_
    exact ⟨by rw [HE.out], (Keeps.refl _ _).alloc _⟩

/-- The seed after so many numbers. -/
def seedAt (s : Int) : Nat → Int
  | 0 => s
  | k + 1 => nx (seedAt s k)
def mixL (s p q : Int) (n : Nat) : List St := (List.range n).map fun k => entryS (hi (seedAt s (k + 1))) p q
theorem mixL_succ (s p q : Int) (n : Nat) : mixL s p q (n + 1) = mixL s p q n ++ [entryS (hi (nx (seedAt s n))) p q] := by simp [mixL, List.range_succ, seedAt]
theorem mixL_len (s p q : Int) (n : Nat) : (mixL s p q n).length = n := by simp [mixL]

theorem Mine.setOther {w wr : World} {e : TypeId} {s : Nat} {v : Value} {n : Nat} {xs : List Value} (h : Mine w wr e s v n xs) {q o : Nat} (hq : w.heap.size ≤ q) (hne : ∀ b, v.ownBlock = some b → b ≠ q) (u : Value) : Mine w (wr.setCell ⟨q, o, none⟩ u) e s v n xs :=
  ⟨h.own.keeps ((Keeps.refl (fun b => b = q) wr).set (.inl rfl) u) (fun b hb e => hne b hb e), h.fresh, h.kp.set (.inr hq) u⟩

def MixRel (w : World) (box : Nat) (s p q : Int) (n : Nat) (v i : Value) (wr : World) : Prop :=
  ∃ (k : Nat) (A : Option Addr) (c : Nat), k ≤ n ∧ i = .int .i64 k ∧ v = .slice A k c ∧ Hid (Mine w wr 41 3 (.slice A k c) k ((mixL s p q k).flatMap encS)) ∧ Hid (∀ b, (Value.slice A k c).ownBlock = some b → b ≠ box) ∧ Hid (wr.heap[box]? = some (.cells #[.int .u64 (seedAt s k)] 59 (0, 0)))

set_option maxHeartbeats 1000000 in
theorem mix_calls (s p q : Int) (n : Nat) (hp : 1 ≤ p) (hp2 : p ≤ 64) (hq : 1 ≤ q) (hq2 : q ≤ 64) (hn : n ≤ 65536) (w : World) : Calls Try.prog 21 #[.int .u64 s, .int .i64 p, .int .i64 q, .int .i64 n] w (NewSt w (mixL s p q n)) := by
  have h1 := Lib.hid (fun W => within_calls p 1 64 W true (by rw [decide_eq_true (by omega), decide_eq_true (by omega)]; rfl))
  have h2 := Lib.hid (fun W => within_calls q 1 64 W true (by rw [decide_eq_true (by omega), decide_eq_true (by omega)]; rfl))
  have h3 := Lib.hid (fun W => within_calls n 0 65536 W true (by rw [decide_eq_true (by omega), decide_eq_true (by omega)]; rfl))
  have hlen := Lib.hid (mixL_len s p q n)
  have M0 : Hid (Mine w (w.alloc (.cells #[.int .u64 s] 59)) 41 3 (.slice none 0 0) 0 []) := (Mine.nil w 41 3).keeps ((Keeps.refl _ _).alloc _)
  have B0 : Hid ((w.alloc (.cells #[.int .u64 s] 59)).heap[w.heap.size]? = some (.cells #[.int .u64 (seedAt s 0)] 59 (0, 0))) := block_alloc_new _ _
  go_enter Try.func21, Try.ntmps21
  go_wp2_with fail
  refine (h1.out _).mono ?_
  rintro e w' ⟨rfl, rfl⟩
  go_wp2_with fail
  refine (h2.out _).mono ?_
  rintro e w' ⟨rfl, rfl⟩
  go_wp2_with fail
  refine (h3.out _).mono ?_
  rintro e w' ⟨rfl, rfl⟩
  go_wp2_with fail
  go_loopw [10, 26] (fun v i wr => MixRel w w.heap.size s p q n v i wr) (fun _ i _ => n - (intOf i).toNat)
  case atStart => exact ⟨0, none, 0, Nat.zero_le _, rfl, rfl, M0.out, fun b hb => by simp [Value.ownBlock] at hb, B0.out⟩
  case round =>
    obtain ⟨k, A, c, hk, rfl, rfl, HM, Hne, HB⟩ := hrel
    clear M0 B0
    by_cases hlt : k < n
    · have hnext := Lib.hid (next_calls w.heap.size (seedAt s k) wr HB.out)
      have hbd := hi_bound (seedAt s k)
      have hent := Lib.hid (fun W => entry_calls (hi (nx (seedAt s k))) p q W hbd.1 hbd.2 hp hp2 hq hq2)
      have hfin := mixL_succ s p q k
      have Hz := Lib.hid (lt_of_block HB.out)
      clear hbd
      go_wp2_with fail
      refine hnext.out.mono ?_
      rintro e w2 ⟨rfl, rfl⟩
      have M2 := Lib.hid (Mine.setOther HM.out (o := 0) (Nat.le_refl _) Hne.out (.int .u64 (nx (seedAt s k))))
      have B2 : Hid ((wr.setCell ⟨w.heap.size, 0, none⟩ (.int .u64 (nx (seedAt s k)))).heap[w.heap.size]? = some (.cells #[.int .u64 (seedAt s (k + 1))] 59 (0, 0))) := block_set HB.out _
      obtain ⟨w2, hw2⟩ : ∃ w2, w2 = wr.setCell ⟨w.heap.size, 0, none⟩ (.int .u64 (nx (seedAt s k))) := ⟨_, rfl⟩
      rw [← hw2] at M2 B2 ⊢
      have Hfin := Lib.hid hfin
      clear hw2 hfin hnext
      go_wp2_with fail
      refine (hent.out _).mono ?_
      rintro e w3 ⟨rfl, k3⟩
      have M3 := Lib.hid (M2.out.keeps k3)
      have B3 : Hid (w3.heap[w.heap.size]? = some (.cells #[.int .u64 (seedAt s (k + 1))] 59 (0, 0))) := (k3.block _ (lt_of_block B2.out) (fun h => h)).trans B2.out
      have z3 := lt_of_block B3.out
      have hfin := Hfin.out
      generalize entryS (hi (nx (seedAt s k))) p q = x at hfin ⊢
      obtain ⟨kd, ea, eb⟩ := x
      have Hf := Lib.hid hfin
      clear k3 hfin hent Hfin
      go_wp2_with (at_builtin; refine wpList_appN eS _ rfl _ _ rfl (.slice A k c) k _ rfl (World.ownsRow.alloc M3.out.own _) ⟨w3.heap.size, 0, none⟩ 1 1 [.int .i64 kd, .int .i64 ea, .int .i64 eb] rfl rfl (newsB (e := 41) (block_alloc_new w3 _)) ?_ ?_ ?_ ?_)
      · simp [Value.oneCell']
      · simp only [maxLen]; omega
      · omega
      rintro v4 w4 ho4 hg4 hf4 g4 c4 rfl
      have M4 := Lib.hid (M3.out.grow ((Keeps.refl _ w3).alloc _) ho4 hg4 hf4 (by omega))
      have b4 : Hid (w4.heap[w.heap.size]? = some (.cells #[.int .u64 (seedAt s (k + 1))] 59 (0, 0))) := blk_grown hg4 (fun e => Hne.out _ e rfl) (block_alloc_old B3.out)
      have n4 : Hid (∀ b, (Value.slice (some ⟨g4, 0, none⟩) (k + 1) c4).ownBlock = some b → b ≠ w.heap.size) := fun b hb e => by
        rcases hf4 b hb with h | h
        · exact Hne.out b h e
        · omega
      clear ho4 hg4 hf4
      go_wp2_with fail
      exact ⟨⟨k + 1, some ⟨g4, 0, none⟩, c4, by omega, by go_num, rfl, by show Mine _ _ _ _ _ _ _; rw [Hf.out, List.flatMap_append]; exact M4.out, n4.out, b4.out⟩, by simp [intOf]; omega⟩
    · obtain rfl : k = n := by omega
      have HM2 : Hid (Mine w wr 41 3 (.slice A (mixL s p q k).length c) (mixL s p q k).length ((mixL s p q k).flatMap encS)) := by
        show Mine _ _ _ _ _ _ _
        rw [hlen.out]; exact HM.out
      go_wp2_with fail
      go_ret
      exact ⟨A, c, by rw [hlen.out]; rfl, HM2.out⟩

theorem mix_none (s p q n : Int) (h : p < 1 ∨ 64 < p ∨ q < 1 ∨ 64 < q ∨ n < 0 ∨ 65536 < n) (w : World) : Calls Try.prog 21 #[.int .u64 s, .int .i64 p, .int .i64 q, .int .i64 n] w (NewSt w []) := by
  by_cases hp : 1 ≤ p ∧ p ≤ 64
  · have h1 := Lib.hid (fun W => within_calls p 1 64 W true (by rw [decide_eq_true hp.1, decide_eq_true hp.2]; rfl))
    by_cases hq : 1 ≤ q ∧ q ≤ 64
    · have h2 := Lib.hid (fun W => within_calls q 1 64 W true (by rw [decide_eq_true hq.1, decide_eq_true hq.2]; rfl))
      have h3 := Lib.hid (fun W => within_calls n 0 65536 W false (by
        by_cases hn : 0 ≤ n
        · rw [decide_eq_true hn, decide_eq_false (by omega)]; rfl
        · rw [decide_eq_false hn]; rfl))
      clear h hp hq
      go_enter Try.func21, Try.ntmps21
      go_wp2_with fail
      refine (h1.out _).mono ?_
      rintro e w' ⟨rfl, rfl⟩
      go_wp2_with fail
      refine (h2.out _).mono ?_
      rintro e w' ⟨rfl, rfl⟩
      go_wp2_with fail
      refine (h3.out _).mono ?_
      rintro e w' ⟨rfl, rfl⟩
      go_wp2_with fail
      go_ret
      exact ⟨_, _, rfl, Mine.nil _ _ _⟩
    · have h2 := Lib.hid (fun W => within_calls q 1 64 W false (by
        by_cases hn : 1 ≤ q
        · rw [decide_eq_true hn, decide_eq_false (by omega)]; rfl
        · rw [decide_eq_false hn]; rfl))
      clear h hp hq
      go_enter Try.func21, Try.ntmps21
      go_wp2_with fail
      refine (h1.out _).mono ?_
      rintro e w' ⟨rfl, rfl⟩
      go_wp2_with fail
      refine (h2.out _).mono ?_
      rintro e w' ⟨rfl, rfl⟩
      go_wp2_with fail
      go_ret
      exact ⟨_, _, rfl, Mine.nil _ _ _⟩
  · have h1 := Lib.hid (fun W => within_calls p 1 64 W false (by
      by_cases hn : 1 ≤ p
      · rw [decide_eq_true hn, decide_eq_false (by omega)]; rfl
      · rw [decide_eq_false hn]; rfl))
    clear h hp
    go_enter Try.func21, Try.ntmps21
    go_wp2_with fail
    refine (h1.out _).mono ?_
    rintro e w' ⟨rfl, rfl⟩
    go_wp2_with fail
    go_ret
    exact ⟨_, _, rfl, Mine.nil _ _ _⟩
end Sd
end Go.Proofs.Ytlnfjjbfdbcgbaa
