/- What a value that came in reads as, whatever its depth: whole numbers, slices, structs; with the size bound at each depth. -/
import Derived.Test.YthjefffefomioaaDoorArg
namespace Go.Proofs.YthjefffefomioaaDoor
open Go.RowKit Go.ChangeShapes Go.WideShapes

def Light {H : Type} (P : Program) (t : TypeId) (d : DataW H) : Prop := ∀ n ∈ d.weights P t, n ≤ reachBytes

/-- Whatever came in at type t is what R reads. -/
def Opens {H : Type} (enc0 : TypeId × Value → H) (P : Program) (W : World) (base : Nat) (spare : Nat → Bool) (held : Bool) {α : Type} (R : α → List Value → Prop) (t : TypeId) : Prop :=
  ∀ (fuel : Nat) (cs : List Value) (x : DataW H × List MemPlace), DataW.trod enc0 P W base spare held fuel t cs = some x → Light P t x.1 → ∃ y, R y cs

/-- A slice whose elements R reads, each of sz cells. -/
def SlR (W : World) {α : Type} (R : α → List Value → Prop) (sz bytes : Nat) (xs : List α) (cs : List Value) : Prop :=
  ∃ (A : Option Addr) (b off cap : Nat), cs = [.slice A xs.length cap] ∧ (0 < xs.length → A = some ⟨b, off, none⟩) ∧ xs.length * bytes ≤ 140737488351232 ∧ xs.length ≤ cap ∧
    ∀ (j : Nat) (x : α), xs[j]? = some x → ∃ ds, R x ds ∧ ds.length = sz ∧ ∀ (i : Nat) (u : Value), ds[i]? = some u → W.cell? ⟨b, off + j * sz + i, none⟩ = some u

variable {H : Type} {enc0 : TypeId × Value → H} {P : Program} {W : World} {base : Nat} {spare : Nat → Bool} {held : Bool} {α : Type} {R : α → List Value → Prop} {t e : TypeId}

theorem weightsAll_mem {H : Type} {P : Program} {e : TypeId} : ∀ {ds : List (DataW H)} {d : DataW H}, d ∈ ds → ∀ n ∈ d.weights P e, n ∈ DataW.weightsAll P e ds
  | d0 :: ds, d, hd, n, hn => by
    simp only [DataW.weightsAll, List.mem_append]
    rcases List.mem_cons.1 hd with rfl | hd
    · exact .inl hn
    · exact .inr (weightsAll_mem hd n hn)

theorem opens_int {k : IntKind} (ht : P.underlying t = some (.int k)) : Opens enc0 P W base spare held (fun (n : Int) cs => cs = [.int k n] ∧ (Lit.int k n).wf = true) t := by
  intro fuel cs x hf _
  obtain ⟨n, rfl, _, w⟩ := DataW.trod_int ht hf
  exact ⟨n, rfl, w⟩

theorem opens_slice {sz B : Nat} (ht : P.underlying t = some (.slice e)) (hC : P.cellsOf e = sz) (hpos : 0 < sz) (hB : P.bytesOf e = B) (h : Opens enc0 P W base spare held R e) : Opens enc0 P W base spare held (SlR W R sz B) t := by
  intro fuel cs x hf hl
  rcases Go.Deep.open_slice ht hf with ⟨hcs, _⟩ | ⟨a, l, c, m, n, D, Pl, hcs, _, hlc, hc, hm, hx, hi⟩
  · exact ⟨[], none, 0, 0, 0, hcs, fun h => by simp at h, by simp, by simp, fun j x hj => by simp at hj⟩
  · have hlm : l ≤ m := by
      rw [hm]
      split
      · exact hlc
      · exact Nat.le_refl _
    have hx1 : x.1 = .slice ((List.range l).map D) ((List.range (m - l)).map fun j => D (l + j)) := by rw [hx]
    rw [hx1] at hl
    have hw : l * B ≤ 140737488351232 := by
      have := hl (((List.range l).map D).length + ((List.range (m - l)).map fun j => D (l + j)).length |> (· * P.bytesOf e)) (by simp [DataW.weights, ht])
      simp only [List.length_map, List.length_range] at this
      rw [hB] at this
      exact Nat.le_trans (Nat.mul_le_mul_right _ (by omega)) this
    obtain ⟨xs, hxl, hxs⟩ := build_list (fun i y => ∃ cs', W.cells? base (a.add (i * P.cellsOf e)) (P.cellsOf e) = some cs' ∧ R y cs') l (fun i hil => by
      obtain ⟨cs', h1, h2⟩ := hi i (by omega)
      obtain ⟨y, h3⟩ := h _ _ _ h2 (fun n hn => hl n (by
        simp only [DataW.weights, ht, List.mem_cons, List.mem_append]
        exact .inr (.inl (weightsAll_mem (List.mem_map.2 ⟨i, List.mem_range.2 hil, rfl⟩) n hn))))
      exact ⟨y, cs', h1, h3⟩)
    have hadd : 0 < l → ∀ q, a.add q = ⟨a.block, a.off + q, none⟩ := by
      intro h0 q
      obtain ⟨y, hy⟩ : ∃ y, xs[0]? = some y := ⟨_, List.getElem?_eq_getElem (by omega)⟩
      obtain ⟨cs', h1, _⟩ := hxs 0 y hy
      obtain ⟨_, hcl, hat⟩ := World.cells?_some h1
      have h2 := hat 0 (by omega)
      rw [Nat.zero_mul] at h2
      have hne : cs'[0]? = some (cs'[0]'(by omega)) := List.getElem?_eq_getElem (by omega)
      rw [hne] at h2
      have ha : a = ⟨a.block, a.off, none⟩ := cell_spot (v := cs'[0]'(by omega)) (by simpa [Addr.add] using h2)
      unfold Addr.add
      split
      · subst_vars; rw [Nat.add_zero]; exact ha
      · rfl
    refine ⟨xs, some a, a.block, a.off, c, by rw [hxl]; exact hcs, fun h0 => ?_, by rw [hxl]; exact hw, by omega, fun j y hj => ?_⟩
    · have h1 := hadd (by omega) 0
      rw [Nat.add_zero] at h1
      rw [← h1]
      rfl
    · have hj0 : j < xs.length := (List.getElem?_eq_some_iff.1 hj).1
      obtain ⟨cs', h1, h2⟩ := hxs j y hj
      obtain ⟨_, hcl, hat⟩ := World.cells?_some h1
      refine ⟨cs', h2, by omega, fun i u hu => ?_⟩
      have hil : i < P.cellsOf e := by
        have := (List.getElem?_eq_some_iff.1 hu).1
        omega
      have h3 := hat i hil
      rw [Go.Deep.add_add, hadd (by omega)] at h3
      rw [Nat.add_assoc, ← hC, h3, hu]

/-- A struct of one-cell fields, each of which reads. -/
theorem opens_struct {fs : Array Field} (he : P.underlying t = some (.struct fs)) (hone : Go.Deep.oneCellFields P fs = true) (hC : P.cellsOf t = fs.size)
    (hdec : ∀ (cs : List Value), cs.length = fs.size → (∀ (j : Nat) (f : Field), fs[j]? = some f → ∃ (v : Value) (n : Nat) (y : DataW H × List MemPlace), cs[j]? = some v ∧ DataW.trod enc0 P W base spare held n f.type [v] = some y ∧ Light P f.type y.1) → ∃ x, R x cs) : Opens enc0 P W base spare held R t := by
  intro fuel cs x hf hl
  obtain ⟨ys, n', hn', hy, hlen, hyl, hff⟩ := DataW.trod_struct he hf
  have hx1 : x.1 = .agg (ys.map (·.1)) := by rw [hy]
  rw [hx1] at hl
  refine hdec cs (by rw [hlen, hC]) (fun q f hq => ?_)
  obtain ⟨ho, hk⟩ := Go.Deep.hone_of hone q f hq
  have hql : q < fs.size := (Array.getElem?_eq_some_iff.1 hq).1
  have h1 := hff q f hq
  rw [ho, hk] at h1
  have hlc : q < cs.length := by rw [hlen, hC]; exact hql
  have hone' : (cs.drop q).take 1 = [cs[q]] := by
    rw [List.drop_eq_getElem_cons hlc]
    rfl
  rw [hone'] at h1
  have hys : ys[q]? = some (ys[q]'(by omega)) := List.getElem?_eq_getElem (by omega)
  refine ⟨_, _, _, List.getElem?_eq_getElem hlc, h1.trans hys, fun n hn => hl n ?_⟩
  simp only [DataW.weights, he]
  refine DataW.weights_mem_each (j := q) (t := f.type) (d := (ys[q]'(by omega)).1) ?_ ?_ n hn
  · simp [hq]
  · simp [hys]

/-- What came in as argument number j reads. -/
theorem opens_arg {ts : List TypeId} {ds : List (DataW H)} {j : Nat} {v : Value} {d : DataW H} {ps : List MemPlace} (hsz : (DataW.weightsEach P ts ds).all (· ≤ reachBytes) = true) (ht : ts[j]? = some t) (hd : ds[j]? = some d)
    (h : DataW.Trod enc0 P W base spare held t v d ps) (ho : Opens enc0 P W base spare held R t) : ∃ y, R y v.cells.toList := by
  obtain ⟨fuel, hf⟩ := h
  exact ho fuel _ _ hf (fun n hn => by
    have := List.all_eq_true.1 hsz n (DataW.weights_mem_each ht hd n hn)
    simpa using this)
end Go.Proofs.YthjefffefomioaaDoor
