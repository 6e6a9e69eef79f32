/- Layer 9's statements: what is done, as an argument; pick. -/
import Derived.Test.YtlgolofcpokndaaGtU
import Derived.Test.YtlgolofcpokndaaGtT
import Derived.Deep.AppendLies
namespace Go.Proofs.Ytlgolofcpokndaa
open Go.RowKit Go.ChangeShapes Go.WideShapes
namespace Gt

structure Act where
  what : Int
  who : Int
  n : Int
  m : Int
  c : Int

def encA (a : Act) : List Value := [.int .i64 a.what, .int .i64 a.who, .int .i64 a.n, .int .i64 a.m, .int .i64 a.c]
theorem encA_len (a : Act) : (encA a).length = 5 := rfl

section
variable {H : Type} {enc0 : TypeId × Value → H} {W : World} {base : Nat} {spare : Nat → Bool} {held : Bool}

set_option maxRecDepth 100000 in
theorem opens_act : Opens enc0 Try.prog W base spare held (fun (a : Act) cs => cs = encA a) 27 := by
  refine opens_structN Try.underlying27 (fun cs hl hf => ?_)
  rw [show Try.prog.cellsOf 27 = 5 by kernel_rfl] at hl
  obtain ⟨n0, y0, t0, _⟩ := hf 0 _ rfl
  obtain ⟨n1, y1, t1, _⟩ := hf 1 _ rfl
  obtain ⟨n2, y2, t2, _⟩ := hf 2 _ rfl
  obtain ⟨n3, y3, t3, _⟩ := hf 3 _ rfl
  obtain ⟨n4, y4, t4, _⟩ := hf 4 _ rfl
  obtain ⟨x0, e0, _, _⟩ := DataW.trod_int Try.underlying3 (cell1 (c := 1) (t := 3) (o := 0) (by kernel_rfl) t0)
  obtain ⟨x1, e1, _, _⟩ := DataW.trod_int Try.underlying3 (cell1 (c := 1) (t := 3) (o := 1) (by kernel_rfl) t1)
  obtain ⟨x2, e2, _, _⟩ := DataW.trod_int Try.underlying3 (cell1 (c := 1) (t := 3) (o := 2) (by kernel_rfl) t2)
  obtain ⟨x3, e3, _, _⟩ := DataW.trod_int Try.underlying3 (cell1 (c := 1) (t := 3) (o := 3) (by kernel_rfl) t3)
  obtain ⟨x4, e4, _, _⟩ := DataW.trod_int Try.underlying3 (cell1 (c := 1) (t := 3) (o := 4) (by kernel_rfl) t4)
  match cs, hl with
  | [a, b, c, d, e], _ =>
    simp at e0 e1 e2 e3 e4
    subst e0 e1 e2 e3 e4
    exact ⟨⟨x0, x1, x2, x3, x4⟩, rfl⟩

def ActsAt (W : World) (v : Value) (l : List Act) : Prop := Rd encA 5 W v l ∧ l.length ≤ 1000000000000000

set_option maxRecDepth 100000 in
theorem acts_arg {ts : List TypeId} {ds : List (DataW H)} {j : Nat} {v : Value} {d : DataW H} {ps : List MemPlace} {r : Reach} {b0 : Nat} (hsz : (DataW.weightsEach Try.prog ts ds).all (· ≤ reachBytes) = true) (ht : ts[j]? = some 22) (hd : ds[j]? = some d)
    (hv : Value.okWide Try.prog W r b0 22 v) (h : DataW.Trod enc0 Try.prog W base spare held 22 v d ps) : ∃ l, ActsAt W v l := by
  obtain ⟨a, len, cap, rfl⟩ := okWide_slice Try.underlying22 hv
  obtain ⟨l, hl⟩ := opens_arg hsz ht hd h (opens_slice (sz := 5) (B := 40) Try.underlying22 (by kernel_rfl) (by decide) (by kernel_rfl) opens_act)
  have hb : l.length * 40 ≤ 140737488351232 := by
    obtain ⟨_, _, _, _, _, _, hb, _⟩ := hl
    exact hb
  exact ⟨l, rd_of_sl hl (by decide) encA_len, by omega⟩
end

theorem pick_calls (c : Int) (n : Nat) (hn : 0 < n) (hn2 : n ≤ 1000000) (w : World) : Calls Try.prog 9 #[.int .i64 c, .int .i64 n] w fun e w' => e = .returned (.int .i64 (at_ c n)) ∧ w = w' := by
  have hb := tmod_bounds c n hn
  have hae := at_emod c n hn
  have hai := at_int c hn
  have hal := at_lt c hn
  obtain ⟨r, hr⟩ : ∃ r : Int, c.tmod (n : Int) = r := ⟨_, rfl⟩
  have hn0 : ((n : Int) == 0) = false := by rw [beq_eq_false_iff_ne]; omega
  rw [hr] at hb hae
  have hw1 : IntKind.i64.wrap r = r := by rw [IntKind.wrap_i64]; omega
  have hw2 : IntKind.i64.wrap (r + (n : Int)) = r + (n : Int) := by rw [IntKind.wrap_i64]; omega
  rw [← hai] at hae
  by_cases h0 : r < 0
  · have e : r + (n : Int) = (at_ c n : Nat) := by
      rw [Int.tmod_eq_emod_of_nonneg (by omega), Int.emod_eq_of_lt (by omega) (by omega)] at hae
      exact hae
    obtain ⟨k, hk⟩ : ∃ k, at_ c n = k := ⟨_, rfl⟩
    rw [hk] at e ⊢
    clear hae hai hal hk hb
    go_enter Try.func9, Try.ntmps9
    go_wp2_with fail
    go_ret
    exact ⟨rfl, rfl⟩
  · have e : r = (at_ c n : Nat) := by
      rw [Int.tmod_eq_emod_of_nonneg (by omega), Int.add_emod_right, Int.emod_eq_of_lt (by omega) (by omega)] at hae
      exact hae
    obtain ⟨k, hk⟩ : ∃ k, at_ c n = k := ⟨_, rfl⟩
    rw [hk] at e ⊢
    have hr0 : (0 : Int) ≤ r := by omega
    clear hae hai hal hk hb
    go_enter Try.func9, Try.ntmps9
    go_wp2_with fail
    go_ret
    exact ⟨rfl, rfl⟩

end Gt
end Go.Proofs.Ytlgolofcpokndaa
