/- What an argument that came in is, as facts on cells: slices of whole numbers. -/
import Derived.Test.YthjefffefomioaaDoorMem
import Derived.SizedLaws
import Derived.ChangeSlices
import Derived.ChangeShapes
import Derived.WideShapes
import Derived.OpenShut
import Derived.Deep.Slices
import Derived.Deep.Fields
import Derived.ChangeSame
namespace Go.Proofs.YthjefffefomioaaDoor
open Go.RowKit Go.ChangeShapes Go.WideShapes

/-- A slice of whole numbers that came in. -/
structure IntsAt (k : IntKind) (w : World) (A : Option Addr) (b off len : Nat) (zs : List Int) : Prop where
  addr : 0 < len → A = some ⟨b, off, none⟩
  cell : ∀ j, j < len → w.cell? ⟨b, off + j, none⟩ = some (.int k (zs.getD j 0))
  wf : ∀ j, j < len → (Lit.int k (zs.getD j 0)).wf = true
  length : zs.length = len

theorem cell_spot {w : World} {a : Addr} {v : Value} (h : w.cell? a = some v) : a = ⟨a.block, a.off, none⟩ := by
  obtain ⟨b, o, s⟩ := a
  cases s with
  | none => rfl
  | some x =>
    simp [World.cell?] at h
    split at h <;> simp_all

theorem intsAt_open {H : Type} {enc : TypeId × Value → H} {P : Program} {W : World} {base : Nat} {spare : Nat → Bool} {held : Bool} {t e : TypeId} {k : IntKind} {a : Option Addr} {len cap : Nat} {d : DataW H} {ps : List MemPlace} {ts : List TypeId} {ds : List (DataW H)} {j : Nat}
    (hsz : (DataW.weightsEach P ts ds).all (· ≤ reachBytes) = true) (ht : ts[j]? = some t) (hd : ds[j]? = some d) (hu : P.underlying t = some (.slice e)) (he : P.underlying e = some (.int k)) (hc : P.cellsOf e = 1) {B : Nat} (hB : P.bytesOf e = B)
    (h : DataW.Trod enc P W base spare held t (.slice a len cap) d ps) : ∃ b off zs, IntsAt k W a b off len zs ∧ len ≤ cap ∧ len * B ≤ 140737488351232 := by
  obtain ⟨fuel, hf⟩ := h
  rcases open_ints hu he hc hf with ⟨hcs, _⟩ | ⟨x, l, c, zs, hcs, _, hl, _, hz, hx, hcell, hwf⟩
  · simp [Value.cells] at hcs
    obtain ⟨rfl, rfl, rfl⟩ := hcs
    exact ⟨0, 0, [], ⟨fun h => by omega, fun j hj => by omega, fun j hj => by omega, rfl⟩, Nat.le_refl _, by simp⟩
  · simp [Value.cells] at hcs
    obtain ⟨rfl, rfl, rfl⟩ := hcs
    have hl2 : len ≤ zs.length := by
      rw [hz]
      split
      · exact hl
      · exact Nat.le_refl _
    refine ⟨x.block, x.off, zs.take len, ⟨fun h => ?_, fun j hj => ?_, fun j hj => ?_, by simp; omega⟩, hl, ?_⟩
    · have := hcell 0 (by omega)
      rw [show x.add 0 = x from rfl] at this
      rw [← cell_spot this]
    · have h1 := hcell j (by omega)
      have h0 := hcell 0 (by omega)
      rw [show x.add 0 = x from rfl] at h0
      have e : x.add j = ⟨x.block, x.off + j, none⟩ := by
        unfold Addr.add
        split
        · subst_vars; rw [Nat.add_zero]; exact cell_spot h0
        · rfl
      rw [e] at h1
      rw [h1]
      simp [List.getD, hj]
    · have hj2 : j < zs.length := by omega
      have : (zs.take len).getD j 0 = zs[j] := by simp [List.getD, hj, hj2]
      rw [this]
      exact hwf _ (List.getElem_mem hj2)
    · obtain ⟨hx, _⟩ := Prod.mk.inj hx
      subst hx
      have z := sized_slice hsz ht hd hu
      rw [hB] at z
      have h1 : (lits (H := H) k (zs.take len)).length + (lits (H := H) k (zs.drop len)).length = zs.length := by
        simp [lits]
        omega
      rw [h1] at z
      exact Nat.le_trans (Nat.mul_le_mul_right _ hl2) z

/-- A slice of flat structs that came in: each element's cells are its encoding. -/
structure FlatAt {α : Type} (enc : α → List Value) (ok : α → Prop) (sz : Nat) (w : World) (A : Option Addr) (b off len : Nat) (xs : List α) : Prop where
  addr : 0 < len → A = some ⟨b, off, none⟩
  cell : ∀ (j : Nat) (x : α) (i : Nat) (v : Value), xs[j]? = some x → (enc x)[i]? = some v → w.cell? ⟨b, off + j * sz + i, none⟩ = some v
  ok : ∀ x ∈ xs, ok x
  length : xs.length = len

theorem FlatAt.keeps {α : Type} {enc : α → List Value} {ok : α → Prop} {sz : Nat} {w w' : World} {A : Option Addr} {b off len : Nat} {xs : List α} {S : Nat → Prop} (h : FlatAt enc ok sz w A b off len xs) (k : Keeps S w w') (hn : ¬ S b) : FlatAt enc ok sz w' A b off len xs :=
  ⟨h.addr, fun j x i v hj hi => by
    have hc := h.cell j x i v hj hi
    have hb : b < w.heap.size := World.block_lt_of_cell? w _ hc
    rw [k.cell hb hn, hc], h.ok, h.length⟩

theorem IntsAt.keeps {k : IntKind} {w w' : World} {A : Option Addr} {b off len : Nat} {zs : List Int} {S : Nat → Prop} (h : IntsAt k w A b off len zs) (kp : Keeps S w w') (hn : ¬ S b) : IntsAt k w' A b off len zs :=
  ⟨h.addr, fun j hj => by
    have hc := h.cell j hj
    have hb : b < w.heap.size := World.block_lt_of_cell? w _ hc
    rw [kp.cell hb hn, hc], h.wf, h.length⟩

theorem build_list {α : Type} (P : Nat → α → Prop) : ∀ (n : Nat), (∀ i, i < n → ∃ x, P i x) → ∃ xs : List α, xs.length = n ∧ ∀ (i : Nat) (x : α), xs[i]? = some x → P i x
  | 0, _ => ⟨[], rfl, fun i x h => by simp at h⟩
  | n + 1, h => by
    obtain ⟨xs, hl, hx⟩ := build_list P n (fun i hi => h i (by omega))
    obtain ⟨x, hp⟩ := h n (by omega)
    refine ⟨xs ++ [x], by simp [hl], fun i y hy => ?_⟩
    by_cases hi : i < n
    · rw [List.getElem?_append_left (by omega)] at hy
      exact hx i y hy
    · have hin : i = n := by
        have := (List.getElem?_eq_some_iff.1 hy).1
        simp [hl] at this
        omega
      subst hin
      rw [List.getElem?_append_right (by omega), hl, Nat.sub_self] at hy
      simp at hy
      subst hy
      exact hp

/-- What the cells of a flat struct are, field by field: enough to name the struct. -/
def Decodes {H : Type} (enc0 : TypeId × Value → H) (P : Program) (w : World) (base : Nat) (spare : Nat → Bool) (held : Bool) {α : Type} (enc : α → List Value) (ok : α → Prop) (fs : Array Field) : Prop :=
  ∀ (cs : List Value) (n : Nat), cs.length = fs.size → (∀ (j : Nat) (f : Field), fs[j]? = some f → ∃ (v : Value) (y : DataW H × List MemPlace), cs[j]? = some v ∧ DataW.trod enc0 P w base spare held n f.type [v] = some y) → ∃ x : α, cs = enc x ∧ ok x

theorem flatAt_open {H : Type} {enc0 : TypeId × Value → H} {P : Program} {W : World} {base : Nat} {spare : Nat → Bool} {held : Bool} {t e : TypeId} {a : Option Addr} {len cap : Nat} {d : DataW H} {ps : List MemPlace} {ts : List TypeId} {ds : List (DataW H)} {j : Nat}
    {α : Type} {enc : α → List Value} {ok : α → Prop} {fs : Array Field} {sz : Nat} (hsz : (DataW.weightsEach P ts ds).all (· ≤ reachBytes) = true) (ht : ts[j]? = some t) (hd : ds[j]? = some d) (hu : P.underlying t = some (.slice e)) (he : P.underlying e = some (.struct fs))
    (hone : Go.Deep.oneCellFields P fs = true) (hC : P.cellsOf e = fs.size) (hfs : fs.size = sz) (hpos : 0 < sz) {B : Nat} (hB : P.bytesOf e = B) (hdec : Decodes enc0 P W base spare held enc ok fs)
    (h : DataW.Trod enc0 P W base spare held t (.slice a len cap) d ps) : ∃ b off xs, FlatAt enc ok sz W a b off len xs ∧ len ≤ cap ∧ len * B ≤ 140737488351232 := by
  obtain ⟨fuel, hf⟩ := h
  subst hfs
  rcases Go.Deep.open_slice hu hf with ⟨hcs, _⟩ | ⟨x, l, c, m, n, D, Pl, hcs, _, hl, _, hm, hx, hi⟩
  · simp [Value.cells] at hcs
    obtain ⟨rfl, rfl, rfl⟩ := hcs
    exact ⟨0, 0, [], ⟨fun h => by omega, fun j x i v hj => by simp at hj, fun x hx => by simp at hx, rfl⟩, Nat.le_refl _, by simp⟩
  · simp [Value.cells] at hcs
    obtain ⟨rfl, rfl, rfl⟩ := hcs
    have hlm : len ≤ m := by
      rw [hm]
      split
      · exact hl
      · exact Nat.le_refl _
    have each : ∀ i, i < len → ∃ y : α, ok y ∧ (enc y).length = fs.size ∧ ∀ (q : Nat) (v : Value), (enc y)[q]? = some v → W.cell? (x.add (i * fs.size + q)) = some v := by
      intro i hil
      obtain ⟨cs', hc, ht'⟩ := hi i (by omega)
      rw [hC] at hc
      obtain ⟨ys, n', hn', hy, hlen, hyl, hff⟩ := DataW.trod_struct he ht'
      obtain ⟨_, hcl, hat⟩ := World.cells?_some hc
      obtain ⟨y, hey, hok⟩ := hdec cs' n' (by rw [hlen, hC]) (fun q f hq => by
        obtain ⟨ho, hk⟩ := Go.Deep.hone_of hone q f hq
        have hql : q < fs.size := (Array.getElem?_eq_some_iff.1 hq).1
        have h1 := hff q f hq
        rw [ho, hk] at h1
        have hlc : q < cs'.length := by rw [hlen, hC]; exact hql
        have hone' : (cs'.drop q).take 1 = [cs'[q]] := by
          rw [List.drop_eq_getElem_cons hlc]
          rfl
        rw [hone'] at h1
        have hys : ys[q]? = some (ys[q]'(by omega)) := List.getElem?_eq_getElem (by omega)
        exact ⟨_, _, List.getElem?_eq_getElem hlc, h1.trans hys⟩)
      refine ⟨y, hok, by rw [← hey, hlen, hC], fun q v hv => ?_⟩
      rw [← hey] at hv
      have hql : q < fs.size := by
        have := (List.getElem?_eq_some_iff.1 hv).1
        rw [hlen, hC] at this
        exact this
      rw [← Go.Deep.add_add, hat q hql, hv]
    obtain ⟨xs, hxl, hxs⟩ := build_list _ len each
    by_cases hz : len = 0
    · subst hz
      obtain rfl : xs = [] := List.eq_nil_of_length_eq_zero hxl
      exact ⟨0, 0, [], ⟨fun h => by omega, fun j x i v hj => by simp at hj, fun x hx => by simp at hx, rfl⟩, hl, by simp⟩
    have hx0 : x = ⟨x.block, x.off, none⟩ := by
      obtain ⟨y, hy⟩ : ∃ y, xs[0]? = some y := ⟨_, List.getElem?_eq_getElem (by omega)⟩
      obtain ⟨_, hyl, hyc⟩ := hxs 0 y hy
      have := hyc 0 _ (List.getElem?_eq_getElem (by omega))
      rw [Nat.zero_mul] at this
      exact cell_spot this
    have hadd : ∀ q, x.add q = ⟨x.block, x.off + q, none⟩ := by
      intro q
      unfold Addr.add
      split
      · subst_vars; rw [Nat.add_zero]; exact hx0
      · rfl
    refine ⟨x.block, x.off, xs, ⟨fun _ => by rw [← hx0], fun i y q v hy hv => ?_, fun y hy => ?_, hxl⟩, hl, ?_⟩
    · obtain ⟨_, _, hyc⟩ := hxs i y hy
      have := hyc q v hv
      rw [hadd, ← Nat.add_assoc] at this
      exact this
    · obtain ⟨i, hi', rfl⟩ := List.getElem_of_mem hy
      exact (hxs i _ (List.getElem?_eq_getElem hi')).1
    · obtain ⟨hx, _⟩ := Prod.mk.inj hx
      subst hx
      have z := sized_slice hsz ht hd hu
      rw [hB] at z
      simp only [List.length_map, List.length_range] at z
      exact Nat.le_trans (Nat.mul_le_mul_right _ (by omega)) z

/-- Structs of three whole numbers. -/
def enc3 (k0 k1 k2 : IntKind) (x : Int × Int × Int) : List Value := [.int k0 x.1, .int k1 x.2.1, .int k2 x.2.2]
def wf3 (k0 k1 k2 : IntKind) (x : Int × Int × Int) : Prop := (Lit.int k0 x.1).wf = true ∧ (Lit.int k1 x.2.1).wf = true ∧ (Lit.int k2 x.2.2).wf = true
theorem decodes3 {H : Type} {enc0 : TypeId × Value → H} {P : Program} {w : World} {base : Nat} {spare : Nat → Bool} {held : Bool} {f0 f1 f2 : Field} {k0 k1 k2 : IntKind} (h0 : P.underlying f0.type = some (.int k0)) (h1 : P.underlying f1.type = some (.int k1)) (h2 : P.underlying f2.type = some (.int k2)) :
    Decodes enc0 P w base spare held (enc3 k0 k1 k2) (wf3 k0 k1 k2) #[f0, f1, f2] := by
  intro cs n hl hf
  obtain ⟨v0, y0, g0, t0⟩ := hf 0 f0 rfl
  obtain ⟨v1, y1, g1, t1⟩ := hf 1 f1 rfl
  obtain ⟨v2, y2, g2, t2⟩ := hf 2 f2 rfl
  obtain ⟨n0, e0, _, w0⟩ := DataW.trod_int h0 t0
  obtain ⟨n1, e1, _, w1⟩ := DataW.trod_int h1 t1
  obtain ⟨n2, e2, _, w2⟩ := DataW.trod_int h2 t2
  simp only [List.cons.injEq, and_true] at e0 e1 e2
  subst e0 e1 e2
  match cs, hl with
  | [a, b, c], _ =>
    simp at g0 g1 g2
    subst g0 g1 g2
    exact ⟨(n0, n1, n2), rfl, w0, w1, w2⟩
end Go.Proofs.YthjefffefomioaaDoor
