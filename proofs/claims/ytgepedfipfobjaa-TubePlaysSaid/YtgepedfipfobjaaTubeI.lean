/- What acts on a pipe came in. -/
import Derived.Test.YtgepedfipfobjaaTubeG
import Derived.Test.YtgepedfipfobjaaOpens3
namespace Go.Proofs.Ytgepedfipfobjaa
open Go.RowKit Go.ChangeShapes Go.WideShapes
namespace Tb

structure Act where
  get : Bool
  who : Int
  x : Int

def encA (a : Act) : List Value := [.bool a.get, .int .i64 a.who, .int .u64 a.x]
theorem encA_len (a : Act) : (encA a).length = 3 := rfl

variable {H : Type} {enc0 : TypeId × Value → H} {W : World} {base : Nat} {spare : Nat → Bool} {held : Bool}

theorem opens_act : Opens enc0 Try.prog W base spare held (fun (a : Act) cs => cs = encA a) 50 := by
  refine opens_structN Try.underlying50 (fun cs hl hf => ?_)
  rw [show Try.prog.cellsOf 50 = 3 by kernel_rfl] at hl
  obtain ⟨n0, y0, t0, _⟩ := hf 0 _ rfl
  obtain ⟨n1, y1, t1, _⟩ := hf 1 _ rfl
  obtain ⟨n2, y2, t2, _⟩ := hf 2 _ rfl
  obtain ⟨x0, e0, _⟩ := DataW.trod_bool Try.underlying4 (cell1 (c := 1) (t := 4) (o := 0) (by kernel_rfl) t0)
  obtain ⟨x1, e1, _⟩ := DataW.trod_int Try.underlying3 (cell1 (c := 1) (t := 3) (o := 1) (by kernel_rfl) t1)
  obtain ⟨x2, e2, _⟩ := DataW.trod_int Try.underlying27 (cell1 (c := 1) (t := 27) (o := 2) (by kernel_rfl) t2)
  match cs, hl with
  | [a, b, c], _ =>
    simp at e0 e1 e2
    subst e0 e1 e2
    exact ⟨⟨x0, x1, x2⟩, rfl⟩

def ActsAt (W : World) (v : Value) (l : List Act) : Prop := Rd encA 3 W v l ∧ l.length ≤ 1000000000000000

theorem acts_arg {ts : List TypeId} {ds : List (DataW H)} {j : Nat} {v : Value} {d : DataW H} {ps : List MemPlace} {r : Reach} {b0 : Nat} (hsz : (DataW.weightsEach Try.prog ts ds).all (· ≤ reachBytes) = true) (ht : ts[j]? = some 45) (hd : ds[j]? = some d)
    (hv : Value.okWide Try.prog W r b0 45 v) (h : DataW.Trod enc0 Try.prog W base spare held 45 v d ps) : ∃ l, ActsAt W v l := by
  obtain ⟨a, len, cap, rfl⟩ := okWide_slice Try.underlying45 hv
  obtain ⟨l, hl⟩ := opens_arg hsz ht hd h (opens_slice (sz := 3) (B := 24) Try.underlying45 (by kernel_rfl) (by decide) (by kernel_rfl) opens_act)
  have hb : l.length * 24 ≤ 140737488351232 := by
    obtain ⟨_, _, _, _, _, _, hb, _⟩ := hl
    exact hb
  exact ⟨l, rd_of_sl hl (by decide) encA_len, by omega⟩

theorem act_cells {w : World} {b off : Nat} {l : List Act} (h : ∀ (j : Nat) (x : Act) (i : Nat) (u : Value), l[j]? = some x → (encA x)[i]? = some u → w.cell? ⟨b, off + j * 3 + i, none⟩ = some u) {k : Nat} {x : Act} (hx : l[k]? = some x) :
    w.cell? ⟨b, off + k * 3, none⟩ = some (.bool x.get) ∧ w.cell? ⟨b, off + k * 3 + 1, none⟩ = some (.int .i64 x.who) ∧ w.cell? ⟨b, off + k * 3 + 2, none⟩ = some (.int .u64 x.x) :=
  ⟨h k x 0 _ hx rfl, h k x 1 _ hx rfl, h k x 2 _ hx rfl⟩
end Tb
end Go.Proofs.Ytgepedfipfobjaa
