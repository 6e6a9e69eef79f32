/- Package frame: an instruction is done. -/
import Derived.Test.YtlnoejmckpimnaaFrP
import Derived.Deep.QuietTactic
import Derived.BigQuiet
import Derived.Deep.RegionWith
import Derived.Deep.RegionHeld3
namespace Go.Proofs.Ytlnoejmckpimnaa
open Go.RowKit Ieee
namespace Fr

def insV (i : In5) : Value := .agg #[.int .i64 i.1, .int .i64 i.2.1, .int .i64 i.2.2.1, .int .i64 i.2.2.2.1, .int .u64 i.2.2.2.2]

def Done (w : World) (d g : Nat) (f : Frm) (ms : List Int) (e : Ending) (w' : World) : Prop := e = .returned (.tuple #[]) ∧ DoAt w' d g f ms ∧ Keeps (fun b => b = d ∨ b = g) w w'
def Stopped (w : World) (n : Int) (e : Ending) (w' : World) : Prop := e = stopE n ∧ Keeps NoBlock w w'

theorem DoAt.lt {w : World} {d g : Nat} {f : Frm} {ms : List Int} (h : DoAt w d g f ms) : d < w.heap.size ∧ g < w.heap.size := ⟨lt_of_block h.head, lt_of_block h.mem⟩

theorem DoAt.keeps {S : Nat → Prop} {w w' : World} {d g : Nat} {f : Frm} {ms : List Int} (h : DoAt w d g f ms) (k : Keeps S w w') (hd : ¬ S d) (hg : ¬ S g) : DoAt w' d g f ms :=
  ⟨by rw [k.block d (lt_of_block h.head) hd]; exact h.head, by rw [k.block g (lt_of_block h.mem) hg]; exact h.mem, h.ne, h.rl, h.ml⟩

theorem DoAt.alloc {w : World} {d g : Nat} {f : Frm} {ms : List Int} (h : DoAt w d g f ms) (o : Obj) : DoAt (w.alloc o) d g f ms := h.keeps ((Keeps.refl NoBlock w).alloc o) (fun h => h) (fun h => h)
theorem DoAt.drew {w : World} {d g : Nat} {f : Frm} {ms : List Int} (h : DoAt w d g f ms) : DoAt w.drew d g f ms := h.keeps ((Keeps.refl NoBlock w).drew) (fun h => h) (fun h => h)
theorem DoAt.drewN {w : World} {d g : Nat} {f : Frm} {ms : List Int} (h : DoAt w d g f ms) (n : Nat) : DoAt (w.drewN n) d g f ms := h.keeps ((Keeps.refl NoBlock w).drewN n) (fun h => h) (fun h => h)

theorem DoAt.pc {w : World} {d g : Nat} {f : Frm} {ms : List Int} (h : DoAt w d g f ms) (n : Int) : DoAt (w.setCell ⟨d, 1, none⟩ (.int .i64 n)) d g { f with P := n } ms :=
  ⟨by rw [block_set h.head, dC_pc], by rw [block_set_ne (by exact h.ne.symm)]; exact h.mem, h.ne, h.rl, h.ml⟩

theorem DoAt.reg {w : World} {d g : Nat} {f : Frm} {ms : List Int} (h : DoAt w d g f ms) {k : Nat} (hk : k < 8) (x : Int) : DoAt (w.setCell ⟨d, 2 + k, none⟩ (rv x)) d g { f with rs := f.rs.set k x } ms :=
  ⟨by rw [block_set h.head, dC_reg x (by rw [h.rl]; exact hk)], by rw [block_set_ne (by exact h.ne.symm)]; exact h.mem, h.ne, by simp [h.rl], h.ml⟩

theorem DoAt.word {w : World} {d g : Nat} {f : Frm} {ms : List Int} (h : DoAt w d g f ms) (k : Nat) (x : Int) : DoAt (w.setCell ⟨g, k, none⟩ (rv x)) d g f (ms.set k x) :=
  ⟨by rw [block_set_ne (by exact h.ne), List.length_set]; exact h.head, by rw [block_set h.mem, mC_set], h.ne, h.rl, by rw [List.length_set]; exact h.ml⟩

/-- A way out of a region that draws: what is left to show stands as a region of no operations. -/
theorem out_of {P : Program} {md : Region.Mode} {a : Act} {w : World} {G : Prop} (h : wpAny P md #[] (fun _ _ _ => G) 0 #[] a w) : G := h.2

theorem reg_at (d k : Nat) (hk : k < 8) (w : World) : Calls Try.prog 58 #[.pointer (some ⟨d, 0, none⟩), .int .i64 k] w fun e w' => e = .returned (.pointer (some ⟨d, 2 + k, none⟩)) ∧ w' = w := (reg_ok d k hk w).mono fun _ _ h => ⟨h.1, h.2.symm⟩
theorem reg_of {A : Int} (h : 0 ≤ A ∧ A < 8) : ∃ a : Nat, A = a ∧ a < 8 := ⟨A.toNat, by omega, by omega⟩


theorem do_jump {w : World} {d g : Nat} {f : Frm} {ms : List Int} (A B C N : Int) (h : DoAt w d g f ms) : Calls Try.prog 45 #[.pointer (some ⟨d, 0, none⟩), insV (16, A, B, C, N)] w (Done w d g { f with P := wrap64 N } ms) := by
  have hlt := h.lt
  have z1 := cell_of_block (o := 1) h.head (dC_1 _ _)
  have f1 := frozen_of_block (o := 1) h.head
  have H := Lib.hid h
  have K := Lib.hid (Keeps.refl (fun b => b = d ∨ b = g) w)
  have K0 := Lib.hid (fun (o : Obj) => (Keeps.refl NoBlock w).alloc o)
  clear h
  unfold insV
  go_enter Try.func45, Try.ntmps45
  go_wp2_with fail
  go_end0
  exact ⟨rfl, (H.out.pc _).alloc _, (K.out.set (.inl (.inl rfl)) _).alloc _⟩

theorem do_zero_bad {w : World} {d g : Nat} {f : Frm} {ms : List Int} (A B C N : Int) (h : DoAt w d g f ms) (hA : A < 0 ∨ 8 ≤ A) : Calls Try.prog 45 #[.pointer (some ⟨d, 0, none⟩), insV (17, A, B, C, N)] w (Stopped w 8) := by
  have hlt := h.lt
  have z1 := cell_of_block (o := 1) h.head (dC_1 _ _)
  have f1 := frozen_of_block (o := 1) h.head
  have H := Lib.hid h
  have K := Lib.hid (Keeps.refl (fun b => b = d ∨ b = g) w)
  have K0 := Lib.hid (fun (o : Obj) => (Keeps.refl NoBlock w).alloc o)
  have Hr := Lib.hid (reg_bad d A hA)
  clear hA
  clear h
  unfold insV
  go_enter Try.func45, Try.ntmps45
  go_wp2_with fail
  refine (Hr.out _).mono ?_
  rintro e w1 ⟨rfl, rfl⟩
  exact ⟨rfl, rfl, K0.out _⟩

theorem do_zero {w : World} {d g : Nat} {f : Frm} {ms : List Int} (a : Nat) (B C N : Int) (x : Int) (h : DoAt w d g f ms) (ha : a < 8) (hx : f.rs[a]? = some x) : Calls Try.prog 45 #[.pointer (some ⟨d, 0, none⟩), insV (17, a, B, C, N)] w (Done w d g { f with P := if x = 0 then wrap64 N else wrap64 (f.P + 1) } ms) := by
  have hlt := h.lt
  have z1 := cell_of_block (o := 1) h.head (dC_1 _ _)
  have f1 := frozen_of_block (o := 1) h.head
  have H := Lib.hid h
  have K := Lib.hid (Keeps.refl (fun b => b = d ∨ b = g) w)
  have K0 := Lib.hid (fun (o : Obj) => (Keeps.refl NoBlock w).alloc o)
  have zr := cell_of_block (o := 2 + a) h.head (dC_r hx)
  unfold rv at zr
  have Hr := Lib.hid (reg_ok d a ha)
  clear ha hx
  by_cases hx0 : x = 0
  · subst hx0
    rw [if_pos rfl]
    clear h
    unfold insV
    go_enter Try.func45, Try.ntmps45
    go_wp2_with fail
    refine (Hr.out _).mono ?_
    rintro e w1 ⟨rfl, rfl⟩
    go_wp2_with fail
    go_end0
    exact ⟨rfl, (H.out.pc _).alloc _, (K.out.set (.inl (.inl rfl)) _).alloc _⟩
  · rw [if_neg hx0]
    have hq : (x == 0) = false := beq_eq_false_iff_ne.2 hx0
    clear hx0
    clear h
    unfold insV
    go_enter Try.func45, Try.ntmps45
    go_wp2_with fail
    refine (Hr.out _).mono ?_
    rintro e w1 ⟨rfl, rfl⟩
    go_wp2_with fail
    go_end0
    exact ⟨rfl, (H.out.pc _).alloc _, (K.out.set (.inl (.inl rfl)) _).alloc _⟩

theorem do_set_bad {w : World} {d g : Nat} {f : Frm} {ms : List Int} (A B C N : Int) (h : DoAt w d g f ms) (hA : A < 0 ∨ 8 ≤ A) : Calls Try.prog 45 #[.pointer (some ⟨d, 0, none⟩), insV (1, A, B, C, N)] w (Stopped w 8) := by
  have hlt := h.lt
  have z1 := cell_of_block (o := 1) h.head (dC_1 _ _)
  have f1 := frozen_of_block (o := 1) h.head
  have H := Lib.hid h
  have K := Lib.hid (Keeps.refl (fun b => b = d ∨ b = g) w)
  have K0 := Lib.hid (fun (o : Obj) => (Keeps.refl NoBlock w).alloc o)
  have Hr := Lib.hid (reg_bad d A hA)
  clear hA
  clear h
  unfold insV
  go_enter Try.func45, Try.ntmps45
  go_wp2_with fail
  go_region_with ((go_at_call 58; refine (Hr.out _).mono ?_; rintro e w1 ⟨rfl, rfl⟩; refine out_of (P := Try.prog) (md := .text) (a := { tmps := #[], defers := [] }) (w := w) ?_))
  all_goals
    exact ⟨rfl, rfl, (K0.out _).drew⟩

theorem do_set {w : World} {d g : Nat} {f : Frm} {ms : List Int} (a : Nat) (B C x y : Int) (h : DoAt w d g f ms) (ha : a < 8) (hy : f.rs[a]? = some y) : Calls Try.prog 45 #[.pointer (some ⟨d, 0, none⟩), insV (1, a, B, C, x)] w (Done w d g { f with P := wrap64 (f.P + 1), rs := f.rs.set a x } ms) := by
  have hlt := h.lt
  have z1 := cell_of_block (o := 1) h.head (dC_1 _ _)
  have f1 := frozen_of_block (o := 1) h.head
  have H := Lib.hid h
  have K := Lib.hid (Keeps.refl (fun b => b = d ∨ b = g) w)
  have K0 := Lib.hid (fun (o : Obj) => (Keeps.refl NoBlock w).alloc o)
  have zr := cell_of_block (o := 2 + a) h.head (dC_r hy)
  have fr := frozen_of_block (o := 2 + a) h.head
  unfold rv at zr
  have Hr := Lib.hid (reg_ok d a ha)
  have Ha := Lib.hid ha
  clear ha hy
  clear h
  unfold insV
  go_enter Try.func45, Try.ntmps45
  go_wp2_with fail
  go_region_with ((go_at_call 58; refine (Hr.out _).mono ?_; rintro e w1 ⟨rfl, rfl⟩))
  all_goals
    go_wp2_with fail
    go_end0
    exact ⟨rfl, (((H.out.reg Ha.out _).pc _).alloc _).drew, (((K.out.set (.inl (.inl rfl)) _).set (.inl (.inl rfl)) _).alloc _).drew⟩

end Fr
end Go.Proofs.Ytlnoejmckpimnaa
