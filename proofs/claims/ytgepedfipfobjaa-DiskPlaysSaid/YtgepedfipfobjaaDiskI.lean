/- What acts on a disk came in. -/
import Derived.Test.YtgepedfipfobjaaDiskE
import Derived.Test.YtgepedfipfobjaaOpens3
namespace Go.Proofs.Ytgepedfipfobjaa
open Go.RowKit Go.ChangeShapes Go.WideShapes

structure DAct where
  done : Bool
  k : Int
  r : Req

def encDA (a : DAct) : List Value := .bool a.done :: .int .i64 a.k :: encR a.r
theorem encDA_len (a : DAct) : (encDA a).length = 6 := rfl

variable {H : Type} {enc0 : TypeId × Value → H} {W : World} {base : Nat} {spare : Nat → Bool} {held : Bool}

theorem cell1 {n : Nat} {t : TypeId} {cs : List Value} {o : Nat} {y : DataW H × List MemPlace} {c : Nat} (hc : Try.prog.cellsOf t = c) (h : DataW.trod enc0 Try.prog W base spare held n t ((cs.drop o).take (Try.prog.cellsOf t)) = some y) : DataW.trod enc0 Try.prog W base spare held n t ((cs.drop o).take c) = some y := by rw [← hc]; exact h

theorem opens_req : Opens enc0 Try.prog W base spare held (fun (r : Req) cs => cs = encR r) 29 := by
  refine opens_structN Try.underlying29 (fun cs hl hf => ?_)
  rw [show Try.prog.cellsOf 29 = 4 by kernel_rfl] at hl
  obtain ⟨n0, y0, t0, _⟩ := hf 0 _ rfl
  obtain ⟨n1, y1, t1, _⟩ := hf 1 _ rfl
  obtain ⟨n2, y2, t2, _⟩ := hf 2 _ rfl
  obtain ⟨n3, y3, t3, _⟩ := hf 3 _ rfl
  obtain ⟨x0, e0, _⟩ := DataW.trod_int Try.underlying3 (cell1 (c := 1) (t := 3) (o := 0) (by kernel_rfl) t0)
  obtain ⟨x1, e1, _⟩ := DataW.trod_int Try.underlying3 (cell1 (c := 1) (t := 3) (o := 1) (by kernel_rfl) t1)
  obtain ⟨x2, e2, _⟩ := DataW.trod_bool Try.underlying4 (cell1 (c := 1) (t := 4) (o := 2) (by kernel_rfl) t2)
  obtain ⟨x3, e3, _⟩ := DataW.trod_int Try.underlying27 (cell1 (c := 1) (t := 27) (o := 3) (by kernel_rfl) t3)
  match cs, hl with
  | [a, b, c, d], _ =>
    simp at e0 e1 e2 e3
    subst e0 e1 e2 e3
    exact ⟨⟨x0, x1, x2, x3⟩, rfl⟩

theorem opens_act : Opens enc0 Try.prog W base spare held (fun (a : DAct) cs => cs = encDA a) 31 := by
  refine opens_structN Try.underlying31 (fun cs hl hf => ?_)
  rw [show Try.prog.cellsOf 31 = 6 by kernel_rfl] at hl
  obtain ⟨n0, y0, t0, _⟩ := hf 0 _ rfl
  obtain ⟨n1, y1, t1, _⟩ := hf 1 _ rfl
  obtain ⟨n2, y2, t2, l2⟩ := hf 2 _ rfl
  obtain ⟨x0, e0, _⟩ := DataW.trod_bool Try.underlying4 (cell1 (c := 1) (t := 4) (o := 0) (by kernel_rfl) t0)
  obtain ⟨x1, e1, _⟩ := DataW.trod_int Try.underlying3 (cell1 (c := 1) (t := 3) (o := 1) (by kernel_rfl) t1)
  obtain ⟨r, e2⟩ := opens_req _ _ _ (cell1 (c := 4) (t := 29) (o := 2) (by kernel_rfl) t2) l2
  match cs, hl with
  | [a, b, c, d, e, f], _ =>
    simp at e0 e1 e2
    subst e0 e1
    refine ⟨⟨x0, x1, r⟩, ?_⟩
    rw [encDA, ← e2]

/-- Acts that came in. -/
def DActsAt (W : World) (v : Value) (l : List DAct) : Prop := Rd encDA 6 W v l ∧ l.length ≤ 1000000000000000

theorem rd_of_sl {α : Type} {enc : α → List Value} {s B : Nat} {xs : List α} {a : Option Addr} {len cap : Nat} (h : SlR W (fun x cs => cs = enc x) s B xs [.slice a len cap]) (hs : 0 < s) (he : ∀ x, (enc x).length = s) : Rd enc s W (.slice a len cap) xs := by
  obtain ⟨A, b, off, cap', hcs, hA, _, _, hx⟩ := h
  simp only [List.cons.injEq, Value.slice.injEq, and_true] at hcs
  obtain ⟨rfl, rfl, rfl⟩ := hcs
  refine ⟨a, b, off, cap, rfl, fun h0 => ⟨hA h0, ?_⟩, fun j x i u hj hi => ?_⟩
  · obtain ⟨ds, rfl, _, hc⟩ := hx 0 _ (List.getElem?_eq_getElem h0)
    have hl := he xs[0]
    have hl0 : 0 < (enc xs[0]).length := by omega
    exact World.block_lt_of_cell? W _ (hc 0 (enc xs[0])[0] (List.getElem?_eq_getElem hl0))
  · obtain ⟨ds, rfl, _, hc⟩ := hx j x hj
    exact hc i u hi

theorem dacts_arg {ts : List TypeId} {ds : List (DataW H)} {j : Nat} {v : Value} {d : DataW H} {ps : List MemPlace} {r : Reach} {b0 : Nat} (hsz : (DataW.weightsEach Try.prog ts ds).all (· ≤ reachBytes) = true) (ht : ts[j]? = some 22) (hd : ds[j]? = some d)
    (hv : Value.okWide Try.prog W r b0 22 v) (h : DataW.Trod enc0 Try.prog W base spare held 22 v d ps) : ∃ l, DActsAt W v l := by
  obtain ⟨a, len, cap, rfl⟩ := okWide_slice Try.underlying22 hv
  obtain ⟨l, hl⟩ := opens_arg hsz ht hd h (opens_slice (sz := 6) (B := 48) Try.underlying22 (by kernel_rfl) (by decide) (by kernel_rfl) opens_act)
  have hb : l.length * 48 ≤ 140737488351232 := by
    obtain ⟨_, _, _, _, _, _, hb, _⟩ := hl
    exact hb
  exact ⟨l, rd_of_sl hl (by decide) encDA_len, by omega⟩
end Go.Proofs.Ytgepedfipfobjaa
