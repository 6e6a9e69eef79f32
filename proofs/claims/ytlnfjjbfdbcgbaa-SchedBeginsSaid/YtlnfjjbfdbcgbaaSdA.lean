/- Package sched: entries of a script; rounds. -/
import Derived.Test.YtlnfjjbfdbcgbaaApp
import Derived.KernelRfl
import Derived.Handy
import Derived.Outline
import Derived.WalkKit
import Derived.Deep.QuietTactic
import Derived.BigQuiet
import Derived.Lib.SliceRun
import Derived.IntWalk
import Derived.Laws.StructEq
import Derived.Deep.RegionHeld3
import Derived.Test.YtlnfjjbfdbcgbaaOpens3
namespace Go.Proofs.Ytlnfjjbfdbcgbaa
open Go.RowKit Go.ChangeShapes Go.WideShapes
namespace Sd

structure St where
  kind : Int
  a : Int
  b : Int
  deriving DecidableEq

abbrev stV (x : St) : Value := .agg #[.int .i64 x.kind, .int .i64 x.a, .int .i64 x.b]
def encS (x : St) : List Value := [.int .i64 x.kind, .int .i64 x.a, .int .i64 x.b]
theorem encS_len (x : St) : (encS x).length = 3 := rfl
theorem encS_one : ∀ (l : List St), ∀ u ∈ l.flatMap encS, u.oneCell' = true := by
  intro l u hu
  obtain ⟨r, _, hr⟩ := List.mem_flatMap.1 hu
  simp only [encS, List.mem_cons, List.not_mem_nil, or_false] at hr
  rcases hr with rfl | rfl | rfl <;> rfl
def stZ : Value := .agg #[.int .i64 0, .int .i64 0, .int .i64 0]
theorem eS : Elem Try.prog 38 41 stZ 3 24 := Elem.mk' (by kernel_rfl) (by kernel_rfl) rfl (by decide)

theorem cells3 {w : World} {b off : Nat} {xs : List St} (h : ∀ (j : Nat) (x : St) (i : Nat) (u : Value), xs[j]? = some x → (encS x)[i]? = some u → w.cell? ⟨b, off + j * 3 + i, none⟩ = some u) {k : Nat} {x : St} (hx : xs[k]? = some x) :
    w.cell? ⟨b, off + k * 3, none⟩ = some (.int .i64 x.kind) ∧ w.cell? ⟨b, off + k * 3 + 1, none⟩ = some (.int .i64 x.a) ∧ w.cell? ⟨b, off + k * 3 + 2, none⟩ = some (.int .i64 x.b) :=
  ⟨h k x 0 _ hx rfl, h k x 1 _ hx rfl, h k x 2 _ hx rfl⟩

theorem ownS_cells {w : World} {g cap n : Nat} {xs : List St} (hn : xs.length = n) (h : Own w 41 3 (.slice (some ⟨g, 0, none⟩) n cap) n (xs.flatMap encS)) {k : Nat} {x : St} (hx : xs[k]? = some x) :
    w.cell? ⟨g, k * 3, none⟩ = some (.int .i64 x.kind) ∧ w.cell? ⟨g, k * 3 + 1, none⟩ = some (.int .i64 x.a) ∧ w.cell? ⟨g, k * 3 + 2, none⟩ = some (.int .i64 x.b) := by
  have hlt : k < n := by rw [← hn]; exact (List.getElem?_eq_some_iff.1 hx).1
  have key : ∀ (j : Nat) (u : Value), (encS x)[j]? = some u → w.cell? ⟨g, k * 3 + j, none⟩ = some u := by
    intro j u hu
    have hj : j < 3 := (List.getElem?_eq_some_iff.1 hu).1
    rw [World.ownsRow.cellAt h (k * 3 + j) (lt_mul hlt hj)]
    exact flat_get' encS 3 encS_len xs k j x u hx hu
  exact ⟨key 0 _ rfl, key 1 _ rfl, key 2 _ rfl⟩

theorem equalSt (x y : St) (w : World) : (Op.equalIn 10000 41 (stV x) (stV y)).run Try.prog w = .ok (decide (x = y)) w := by
  have u3 := Try.underlying3
  have a3 := Try.isAgg3
  have z3 := Try.sizeOf3
  have hS : Try.prog.underlying 41 = some (.struct (Try.prog.fieldsOf 41)) := by kernel_rfl
  have hp : Try.prog.stoodInHeld 41 = false := by kernel_rfl
  obtain ⟨a, b, c⟩ := x
  obtain ⟨a', b', c'⟩ := y
  rw [show (10000 : Nat) = 9999 + 1 from rfl, run_equalIn_agg w 9999 41 _ _ hS hp]
  simp only [Program.fieldsOf, Try.underlying41]
  go_simp
  by_cases h1 : a = a' <;> by_cases h2 : b = b' <;> by_cases h3 : c = c' <;> simp [h1, h2, h3]

theorem guardSt (op : BinOp) (a b : Operand) (xs ys : Array Value) (w : World) : (eqGuard op 41 a b (.agg xs) (.agg ys)).run Try.prog w = .ok () w := run_eqGuard_agg w op 41 a b xs ys (by kernel_rfl)

theorem litS (w : World) (xs : List St) (hl : xs.length ≤ 1000) : Rd encS 3 (w.alloc (.cells (xs.flatMap encS).toArray 41)) (.slice (some ⟨w.heap.size, 0, none⟩) xs.length xs.length) xs := by
  have h := World.ownsRow_lit (base := 0) (e := 41) (size := 3) w (xs.flatMap encS).toArray xs.length (Nat.zero_le _) (by simp only [maxLen]; omega) (by rw [List.size_toArray, flat_len encS 3 encS_len])
  exact Own.rd encS_len h

/-- New entries. -/
def NewSt (w : World) (l : List St) (e : Ending) (w' : World) : Prop := ∃ A c, e = .returned (.slice A l.length c) ∧ Mine w w' 41 3 (.slice A l.length c) l.length (l.flatMap encS)

section
variable {H : Type} {enc0 : TypeId × Value → H} {W : World} {base : Nat} {spare : Nat → Bool} {held : Bool}
theorem opens_st : Opens enc0 Try.prog W base spare held (fun (a : St) cs => cs = encS a) 41 := by
  refine opens_structN Try.underlying41 (fun cs hl hf => ?_)
  rw [show Try.prog.cellsOf 41 = 3 by kernel_rfl] at hl
  obtain ⟨n0, y0, t0, _⟩ := hf 0 _ rfl
  obtain ⟨n1, y1, t1, _⟩ := hf 1 _ rfl
  obtain ⟨n2, y2, t2, _⟩ := hf 2 _ rfl
  obtain ⟨x0, e0, _⟩ := DataW.trod_int Try.underlying3 (cell1 (c := 1) (t := 3) (o := 0) (by kernel_rfl) t0)
  obtain ⟨x1, e1, _⟩ := DataW.trod_int Try.underlying3 (cell1 (c := 1) (t := 3) (o := 1) (by kernel_rfl) t1)
  obtain ⟨x2, e2, _⟩ := DataW.trod_int Try.underlying3 (cell1 (c := 1) (t := 3) (o := 2) (by kernel_rfl) t2)
  match cs, hl with
  | [a, b, c], _ =>
    simp at e0 e1 e2
    subst e0 e1 e2
    exact ⟨⟨x0, x1, x2⟩, rfl⟩

/-- Entries that came in. -/
def StsAt (W : World) (v : Value) (l : List St) : Prop := Rd encS 3 W v l ∧ l.length * 24 ≤ 140737488351232 ∧ ∃ A cap, v = .slice A l.length cap ∧ l.length ≤ cap

theorem sts_arg {ts : List TypeId} {ds : List (DataW H)} {j : Nat} {v : Value} {d : DataW H} {ps : List MemPlace} {r : Reach} {b0 : Nat} (hsz : (DataW.weightsEach Try.prog ts ds).all (· ≤ reachBytes) = true) (ht : ts[j]? = some 38) (hd : ds[j]? = some d)
    (hv : Value.okWide Try.prog W r b0 38 v) (h : DataW.Trod enc0 Try.prog W base spare held 38 v d ps) : ∃ l, StsAt W v l := by
  obtain ⟨a, len, cap, rfl⟩ := okWide_slice Try.underlying38 hv
  obtain ⟨l, hl⟩ := opens_arg hsz ht hd h (opens_slice (sz := 3) (B := 24) Try.underlying38 (by kernel_rfl) (by decide) (by kernel_rfl) opens_st)
  have h' := hl
  obtain ⟨A, b, off, cap2, hv2, _, hb, hc, _⟩ := hl
  simp only [Value.cells, List.cons.injEq, and_true] at hv2
  refine ⟨l, rd_of_sl h' (by decide) encS_len, hb, A, cap2, hv2, hc⟩
end

theorem within_calls (n l m : Int) (w : World) (b : Bool) (hb : (decide (l ≤ n) && decide (n ≤ m)) = b) : Calls Try.prog 29 #[.int .i64 n, .int .i64 l, .int .i64 m] w fun e w' => e = .returned (.bool b) ∧ w = w' := by
  by_cases h1 : l ≤ n
  · by_cases h2 : n ≤ m
    · obtain rfl : b = true := by rw [← hb]; simp [h1, h2]
      clear hb
      go_enter Try.func29, Try.ntmps29
      go_wp2
      go_ret
      exact ⟨rfl, rfl⟩
    · obtain rfl : b = false := by rw [← hb]; simp [h2]
      have h2' : m < n := by omega
      have h3' : decide (n ≤ m) = false := decide_eq_false h2
      clear hb h2
      go_enter Try.func29, Try.ntmps29
      go_wp2
      go_ret
      exact ⟨rfl, rfl⟩
  · obtain rfl : b = false := by rw [← hb]; simp [h1]
    have h1' : n < l := by omega
    clear hb h1
    go_enter Try.func29, Try.ntmps29
    go_wp2
    go_ret
    exact ⟨rfl, rfl⟩

/-- Each of p processors, in the k-th round. -/
def roundL (k p : Nat) : List St := (List.range p).map fun (q : Nat) => ⟨1, (q : Int), (k : Int)⟩
def roundsL (p n : Nat) : List St := (List.range n).flatMap fun k => roundL k p

theorem roundL_succ (k p : Nat) : roundL k (p + 1) = roundL k p ++ [⟨1, (p : Int), (k : Int)⟩] := by simp [roundL, List.range_succ]
theorem roundsL_succ (p n : Nat) : roundsL p (n + 1) = roundsL p n ++ roundL n p := by simp [roundsL, List.range_succ]
theorem roundL_len (k p : Nat) : (roundL k p).length = p := by simp [roundL]
theorem roundsL_len (p n : Nat) : (roundsL p n).length = n * p := by
  induction n with
  | zero => simp [roundsL]
  | succ n ih => rw [roundsL_succ, List.length_append, ih, roundL_len, Nat.add_mul]; omega

/-- make([]T, 0, c). -/
theorem run_mk0 {P : Program} {t e : TypeId} {z : Value} {size bytes : Nat} (E : Elem P t e z size bytes) (c : Nat) (hn : c ≤ 100000000) (hb : bytes ≤ 1000) (w : World) :
    ∃ w', (Instr.makeSlice t (.int .i64 0) (.int .i64 (c : Int))).run P w = .ok (.slice (some ⟨w.heap.size, 0, none⟩) 0 c) w' ∧ Mine w w' e size (.slice (some ⟨w.heap.size, 0, none⟩) 0 c) 0 [] := by
  obtain ⟨ht, ⟨i, hi, hz, rfl, rfl⟩, hzs, hsz⟩ := E
  have hb' : (i.bytes : Int) * (c : Int) ≤ 281474976710656 := by
    have h : i.bytes * c ≤ 1000 * 100000000 := Nat.mul_le_mul hb hn
    have h2 : ((i.bytes * c : Nat) : Int) ≤ 281474976710656 := by omega
    rwa [Int.natCast_mul] at h2
  have hr := run_make (P := P) w t e i z ht hi hz .i64 .i64 0 c (by omega) (by omega) hb' (by omega)
  refine ⟨_, hr, ⟨by simp, .inr ⟨w.heap.size, _, _, rfl, Nat.zero_le _, heap_alloc_new w _, Nat.zero_le _, by simp only [maxLen]; omega, ?_, by simp⟩⟩, fun k hk => by simp only [Value.ownBlock, Option.some.injEq] at hk; omega, (Keeps.refl _ _).alloc _⟩
  rw [size_madeCells]; simp

def OutRel (w : World) (n p : Nat) (v i : Value) (wr : World) : Prop := ∃ (k : Nat) (A : Option Addr) (c : Nat), k ≤ n ∧ i = .int .i64 k ∧ v = .slice A (k * p) c ∧ Hid (Mine w wr 41 3 (.slice A (k * p) c) (k * p) ((roundsL p k).flatMap encS))
def InRel (w : World) (k p : Nat) (v i : Value) (wr : World) : Prop := ∃ (q : Nat) (A : Option Addr) (c : Nat), q ≤ p ∧ i = .int .i64 q ∧ v = .slice A (k * p + q) c ∧ Hid (Mine w wr 41 3 (.slice A (k * p + q) c) (k * p + q) ((roundsL p k ++ roundL k q).flatMap encS))

set_option maxHeartbeats 2000000 in
theorem rounds_calls (p n : Nat) (hp : 1 ≤ p) (hp2 : p ≤ 64) (hn : n ≤ 65536) (w : World) : Calls Try.prog 18 #[.int .i64 p, .int .i64 n] w (NewSt w (roundsL p n)) := by
  have h1 := Lib.hid (fun W => within_calls p 1 64 W true (by rw [decide_eq_true (by omega), decide_eq_true (by omega)]; rfl))
  have h2 := Lib.hid (fun W => within_calls n 0 65536 W true (by rw [decide_eq_true (by omega), decide_eq_true (by omega)]; rfl))
  have hpn : p * n ≤ 64 * 65536 := Nat.mul_le_mul hp2 hn
  obtain ⟨m, hm⟩ : ∃ m, m = p * n := ⟨_, rfl⟩
  have hm1 : (p : Int) * (n : Int) = (m : Int) := by rw [hm, Int.natCast_mul]
  have hm2 : m ≤ 4194304 := by rw [hm]; exact hpn
  obtain ⟨w0, hr, M0⟩ := run_mk0 eS m (by omega) (by decide) w
  have HM0 := Lib.hid M0
  have hlen := Lib.hid (roundsL_len p n)
  have hbound : ∀ k, k ≤ n → k * p ≤ 4194304 := fun k hk => by have := Nat.mul_le_mul hk hp2; omega
  have Hb := Lib.hid hbound
  clear hm hpn M0 hbound
  go_enter Try.func18, Try.ntmps18
  go_wp2_with fail
  refine (h1.out _).mono ?_
  rintro e w' ⟨rfl, rfl⟩
  go_wp2_with fail
  refine (h2.out _).mono ?_
  rintro e w' ⟨rfl, rfl⟩
  go_wp2_with fail
  go_loopw [5, 21] (fun v i wr => OutRel w n p v i wr) (fun _ i _ => n - (intOf i).toNat)
  case atStart => exact ⟨0, _, m, Nat.zero_le _, rfl, by rw [Nat.zero_mul], by rw [Nat.zero_mul]; exact HM0.out⟩
  case round =>
    obtain ⟨k, A, c, hk, rfl, rfl, HM⟩ := hrel
    by_cases hlt : k < n
    · have hb1 := Hb.out (k + 1) hlt
      have hsum : (k + 1) * p = k * p + p := by rw [Nat.add_mul, Nat.one_mul]
      rw [hsum] at hb1
      have Hsum := Lib.hid hsum
      clear hsum hr hm1
      obtain ⟨wo, rfl⟩ : ∃ wo : World, wo = wr := ⟨_, rfl⟩
      go_wp2_with fail
      go_loopw [5, 25] (fun v i wr => InRel w k p v i wr) (fun _ i _ => p - (intOf i).toNat)
      case atStart => exact ⟨0, A, c, Nat.zero_le _, rfl, rfl, by show Mine _ _ _ _ _ _ _; simpa [roundL] using HM.out⟩
      case round =>
        obtain ⟨q, A1, c1, hq, rfl, rfl, HM1⟩ := hrel
        by_cases hlq : q < p
        · have hfin : Hid ((roundsL p k ++ roundL k (q + 1)).flatMap encS = (roundsL p k ++ roundL k q).flatMap encS ++ [.int .i64 1, .int .i64 q, .int .i64 k]) := by
            show _ = _
            rw [roundL_succ, ← List.append_assoc, List.flatMap_append]; rfl
          go_wp2_with (at_builtin; refine wpList_appN eS _ rfl _ _ rfl (.slice A1 (k * p + q) c1) (k * p + q) _ rfl (World.ownsRow.alloc HM1.out.own _) ⟨wr.heap.size, 0, none⟩ 1 1 [.int .i64 1, .int .i64 q, .int .i64 k] rfl rfl (newsB (e := 41) (block_alloc_new wr _)) ?_ ?_ ?_ ?_)
          · simp [Value.oneCell']
          · simp only [maxLen]; omega
          · omega
          rintro v4 w4 ho4 hg4 hf4 g4 c4 rfl
          have M4 := HM1.out.grow ((Keeps.refl _ wr).alloc _) ho4 hg4 hf4 (by omega)
          have HM4 : Hid (Mine w w4 41 3 (.slice (some ⟨g4, 0, none⟩) (k * p + (q + 1)) c4) (k * p + (q + 1)) ((roundsL p k ++ roundL k (q + 1)).flatMap encS)) := by
            show Mine _ _ _ _ _ _ _
            rw [hfin.out, List.flatMap_append, List.append_assoc]; exact M4
          clear M4 ho4 hg4 hf4
          go_wp2_with fail
          exact ⟨⟨q + 1, some ⟨g4, 0, none⟩, c4, by omega, by go_num, rfl, HM4.out⟩, by simp [intOf]; omega⟩
        · obtain rfl : q = p := by omega
          have HM2 : Hid (Mine w wr 41 3 (.slice A1 ((k + 1) * q) c1) ((k + 1) * q) ((roundsL q (k + 1)).flatMap encS)) := by
            show Mine _ _ _ _ _ _ _
            rw [Hsum.out, roundsL_succ]; exact HM1.out
          go_wp2_with fail
          exact ⟨⟨k + 1, A1, c1, by omega, by go_num, by rw [Hsum.out], HM2.out⟩, by simp [intOf]; omega⟩
    · obtain rfl : k = n := by omega
      have HM2 : Hid (Mine w wr 41 3 (.slice A (roundsL p k).length c) (roundsL p k).length ((roundsL p k).flatMap encS)) := by
        show Mine _ _ _ _ _ _ _
        rw [hlen.out]; exact HM.out
      go_wp2_with fail
      go_ret
      exact ⟨A, c, by rw [hlen.out]; rfl, HM2.out⟩

theorem rounds_none (p n : Int) (h : p < 1 ∨ 64 < p ∨ n < 0 ∨ 65536 < n) (w : World) : Calls Try.prog 18 #[.int .i64 p, .int .i64 n] w (NewSt w []) := by
  by_cases hp : 1 ≤ p ∧ p ≤ 64
  · have h1 := Lib.hid (fun W => within_calls p 1 64 W true (by rw [decide_eq_true hp.1, decide_eq_true hp.2]; rfl))
    have h2 := Lib.hid (fun W => within_calls n 0 65536 W false (by
      by_cases hn : 0 ≤ n
      · rw [decide_eq_true hn, decide_eq_false (by omega)]; rfl
      · rw [decide_eq_false hn]; rfl))
    clear h hp
    go_enter Try.func18, Try.ntmps18
    go_wp2_with fail
    refine (h1.out _).mono ?_
    rintro e w' ⟨rfl, rfl⟩
    go_wp2_with fail
    refine (h2.out _).mono ?_
    rintro e w' ⟨rfl, rfl⟩
    go_wp2_with fail
    go_ret
    exact ⟨_, _, rfl, Mine.nil _ _ _⟩
  · have h1 := Lib.hid (fun W => within_calls p 1 64 W false (by
      by_cases hn : 1 ≤ p
      · rw [decide_eq_true hn, decide_eq_false (by omega)]; rfl
      · rw [decide_eq_false hn]; rfl))
    clear h hp
    go_enter Try.func18, Try.ntmps18
    go_wp2_with fail
    refine (h1.out _).mono ?_
    rintro e w' ⟨rfl, rfl⟩
    go_wp2_with fail
    go_ret
    exact ⟨_, _, rfl, Mine.nil _ _ _⟩
end Sd
end Go.Proofs.Ytlnfjjbfdbcgbaa
