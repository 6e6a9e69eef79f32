/- WheelPlays: what is done, as an argument; the law's own rows beside the clock. -/
import Derived.Test.YtlnoejmckpimnaaWhG
import Derived.Test.YtlnoejmckpimnaaOpens3
namespace Go.Proofs.Ytlnoejmckpimnaa
open Go.RowKit Go.ChangeShapes Go.WideShapes
namespace Wh

structure Act where
  who : Int
  n : Int
  hw : Wf who
  hn : Wf n

def encA (a : Act) : List Value := [.int .i64 a.who, .int .i64 a.n]
theorem encA_len (a : Act) : (encA a).length = 2 := rfl

section
variable {H : Type} {enc0 : TypeId × Value → H} {W : World} {base : Nat} {spare : Nat → Bool} {held : Bool}

set_option maxRecDepth 100000 in
theorem opens_act : Opens enc0 Try.prog W base spare held (fun (a : Act) cs => cs = encA a) 56 := by
  refine opens_structN Try.underlying56 (fun cs hl hf => ?_)
  rw [show Try.prog.cellsOf 56 = 2 by kernel_rfl] at hl
  obtain ⟨n0, y0, t0, _⟩ := hf 0 _ rfl
  obtain ⟨n1, y1, t1, _⟩ := hf 1 _ rfl
  obtain ⟨x0, e0, _, w0⟩ := DataW.trod_int Try.underlying3 (cell1 (c := 1) (t := 3) (o := 0) (by kernel_rfl) t0)
  obtain ⟨x1, e1, _, w1⟩ := DataW.trod_int Try.underlying3 (cell1 (c := 1) (t := 3) (o := 1) (by kernel_rfl) t1)
  match cs, hl with
  | [a, b], _ =>
    simp at e0 e1
    subst e0 e1
    exact ⟨⟨x0, x1, w0, w1⟩, rfl⟩

def ActsAt (W : World) (v : Value) (l : List Act) : Prop := Rd encA 2 W v l ∧ l.length ≤ 1000000000000000

set_option maxRecDepth 100000 in
theorem acts_arg {ts : List TypeId} {ds : List (DataW H)} {j : Nat} {v : Value} {d : DataW H} {ps : List MemPlace} {r : Reach} {b0 : Nat} (hsz : (DataW.weightsEach Try.prog ts ds).all (· ≤ reachBytes) = true) (ht : ts[j]? = some 54) (hd : ds[j]? = some d)
    (hv : Value.okWide Try.prog W r b0 54 v) (h : DataW.Trod enc0 Try.prog W base spare held 54 v d ps) : ∃ l, ActsAt W v l := by
  obtain ⟨a, len, cap, rfl⟩ := okWide_slice Try.underlying54 hv
  obtain ⟨l, hl⟩ := opens_arg hsz ht hd h (opens_slice (sz := 2) (B := 16) Try.underlying54 (by kernel_rfl) (by decide) (by kernel_rfl) opens_act)
  have hb : l.length * 16 ≤ 140737488351232 := by
    obtain ⟨_, _, _, _, _, _, hb, _⟩ := hl
    exact hb
  exact ⟨l, rd_of_sl hl (by decide) encA_len, by omega⟩

theorem act_cells {w : World} {b off : Nat} {l : List Act} (h : ∀ (j : Nat) (x : Act) (i : Nat) (u : Value), l[j]? = some x → (encA x)[i]? = some u → w.cell? ⟨b, off + j * 2 + i, none⟩ = some u) {k : Nat} {x : Act} (hx : l[k]? = some x) :
    w.cell? ⟨b, off + k * 2, none⟩ = some (.int .i64 x.who) ∧ w.cell? ⟨b, off + k * 2 + 1, none⟩ = some (.int .i64 x.n) :=
  ⟨h k x 0 _ hx rfl, h k x 1 _ hx rfl⟩
end

abbrev Row := Value × List Int

/-- The law's own rows, each apart from the others and from the clock. -/
structure RowsAt (w : World) (d mb : Nat) (wr : World) (vs : List Row) : Prop where
  own : ∀ (i : Nat) (v : Value) (xs : List Int), vs[i]? = some (v, xs) → Own wr 3 1 v xs.length (xs.map (Value.int .i64))
  lo : ∀ (i : Nat) (v : Value) (xs : List Int) (b : Nat), vs[i]? = some (v, xs) → v.ownBlock = some b → w.heap.size ≤ b ∧ b ≠ d ∧ b ≠ mb
  sep : ∀ (i j : Nat) (v : Value) (xs : List Int) (v' : Value) (xs' : List Int) (b : Nat), vs[i]? = some (v, xs) → vs[j]? = some (v', xs') → v.ownBlock = some b → v'.ownBlock = some b → i = j

structure St (w : World) (d mb n : Nat) (now : Int) (f : Int → Int) (wr : World) (vs : List Row) : Prop where
  wl : Wl w d mb n now f wr
  rows : RowsAt w d mb wr vs

theorem St.wheel {w wr w' : World} {d mb n n' : Nat} {now now' : Int} {f f' : Int → Int} {vs : List Row} (h : St w d mb n now f wr vs) (h' : WhAt w' d mb n' now' f') (k : Keeps (Two d mb) wr w') : St w d mb n' now' f' w' vs :=
  ⟨h.wl.step h' k, fun i v xs hi => (h.rows.own i v xs hi).keeps k (fun b hb e => by
    have := h.rows.lo i v xs b hi hb
    rcases e with e | e
    · exact this.2.1 e
    · exact this.2.2 e), h.rows.lo, h.rows.sep⟩

theorem St.keeps {w wr w' : World} {d mb n : Nat} {now : Int} {f : Int → Int} {vs : List Row} (h : St w d mb n now f wr vs) (k : Keeps NoBlock wr w') : St w d mb n now f w' vs :=
  ⟨h.wl.keeps k, fun i v xs hi => (h.rows.own i v xs hi).keeps k (fun _ _ e => e), h.rows.lo, h.rows.sep⟩

/-- Row i becomes another one: its block may turn, or it lies anew. -/
theorem St.put {w wr w' : World} {d mb n : Nat} {now : Int} {f : Int → Int} {vs : List Row} (h : St w d mb n now f wr vs) {i : Nat} {v v' : Value} {xs ys : List Int} (hi : vs[i]? = some (v, xs)) (k : Keeps (fun b => v.ownBlock = some b) wr w')
    (ho : Own w' 3 1 v' ys.length (ys.map (Value.int .i64))) (hf : ∀ b, v'.ownBlock = some b → v.ownBlock = some b ∨ wr.heap.size ≤ b) : St w d mb n now f w' (vs.set i (v', ys)) := by
  have hil := (List.getElem?_eq_some_iff.1 hi).1
  have hdl := lt_of_block h.wl.wh.head
  have hml := h.wl.wh.lt
  have hsz := h.wl.kp.size
  have hlo : ∀ b, v.ownBlock = some b → w.heap.size ≤ b ∧ b ≠ d ∧ b ≠ mb := fun b hb => h.rows.lo i v xs b hi hb
  have hlo' : ∀ b, v'.ownBlock = some b → w.heap.size ≤ b ∧ b ≠ d ∧ b ≠ mb := fun b hb => by
    rcases hf b hb with h1 | h1
    · exact hlo b h1
    · exact ⟨by omega, by omega, by omega⟩
  have hat : ∀ j u zs, (vs.set i (v', ys))[j]? = some (u, zs) → (j = i ∧ u = v' ∧ zs = ys) ∨ (j ≠ i ∧ vs[j]? = some (u, zs)) := fun j u zs hj => by
    by_cases e : j = i
    · subst e
      rw [List.getElem?_set_self hil] at hj
      injection hj with hj
      injection hj with h1 h2
      exact .inl ⟨rfl, h1.symm, h2.symm⟩
    · rw [List.getElem?_set_ne (fun h => e h.symm)] at hj
      exact .inr ⟨e, hj⟩
  refine ⟨⟨h.wl.wh.keeps k (fun e => (hlo _ e).2.1 rfl) (fun e => (hlo _ e).2.2 rfl), ?_, h.wl.ld, h.wl.lm⟩, fun j u zs hj => ?_, fun j u zs b hj hb => ?_, fun j j' u zs u' zs' b hj hj' hb hb' => ?_⟩
  · exact ((h.wl.kp.mono (S' := fun b => v.ownBlock = some b) (fun _ _ e => e.elim)).trans k (fun _ _ e => e)).mono (fun q hq e => by have := hlo q e; omega)
  · rcases hat j u zs hj with ⟨rfl, rfl, rfl⟩ | ⟨e, hj⟩
    · exact ho
    · exact (h.rows.own j u zs hj).keeps k (fun b hb e2 => e (h.rows.sep j i u zs v xs b hj hi hb e2))
  · rcases hat j u zs hj with ⟨rfl, rfl, rfl⟩ | ⟨e, hj⟩
    · exact hlo' b hb
    · exact h.rows.lo j u zs b hj hb
  · rcases hat j u zs hj with ⟨rfl, rfl, rfl⟩ | ⟨e, hk⟩
    · rcases hat j' u' zs' hj' with ⟨rfl, rfl, rfl⟩ | ⟨e', hk'⟩
      · rfl
      · rcases hf b hb with h1 | h1
        · exact (h.rows.sep j' j u' zs' v xs b hk' hi hb' h1).symm
        · have := (h.rows.own j' u' zs' hk').lt b hb'
          omega
    · rcases hat j' u' zs' hj' with ⟨rfl, rfl, rfl⟩ | ⟨e', hk'⟩
      · rcases hf b hb' with h1 | h1
        · exact h.rows.sep j j' u zs v xs b hk hi hb h1
        · have := (h.rows.own j u zs hk).lt b hb
          omega
      · exact h.rows.sep j j' u zs u' zs' b hk hk' hb hb'

/-- append to row i. -/
theorem St.app {w wr wm w' : World} {d mb n : Nat} {now : Int} {f : Int → Int} {vs : List Row} (h : St w d mb n now f wr vs) {i : Nat} {v v' : Value} {xs ys : List Int} (hi : vs[i]? = some (v, xs)) (km : Keeps NoBlock wr wm) (hg : wm.grownBy w' v.ownBlock)
    (ho : Own w' 3 1 v' ys.length (ys.map (Value.int .i64))) (hf : ∀ b, v'.ownBlock = some b → v.ownBlock = some b ∨ wr.heap.size ≤ b) : St w d mb n now f w' (vs.set i (v', ys)) :=
  h.put hi ((km.mono (fun _ _ e => e.elim)).grown hg (fun _ e => .inl e)) ho hf

/-- One row more. -/
theorem St.push {w wr w' : World} {d mb n : Nat} {now : Int} {f : Int → Int} {vs : List Row} (h : St w d mb n now f wr vs) {v' : Value} {ys : List Int} (k : Keeps NoBlock wr w') (ho : Own w' 3 1 v' ys.length (ys.map (Value.int .i64)))
    (hf : ∀ b, v'.ownBlock = some b → wr.heap.size ≤ b) : St w d mb n now f w' (vs ++ [(v', ys)]) := by
  have hdl := lt_of_block h.wl.wh.head
  have hml := h.wl.wh.lt
  have hsz := h.wl.kp.size
  have hat : ∀ j u zs, (vs ++ [(v', ys)])[j]? = some (u, zs) → (j = vs.length ∧ u = v' ∧ zs = ys) ∨ (j < vs.length ∧ vs[j]? = some (u, zs)) := fun j u zs hj => by
    by_cases e : j < vs.length
    · rw [List.getElem?_append_left e] at hj
      exact .inr ⟨e, hj⟩
    · rw [List.getElem?_append_right (by omega)] at hj
      obtain ⟨h1, h2⟩ := List.getElem?_eq_some_iff.1 hj
      simp only [List.length_singleton] at h1
      have e2 : j = vs.length := by omega
      subst e2
      simp at h2
      exact .inl ⟨rfl, h2.1.symm, h2.2.symm⟩
  refine ⟨h.wl.keeps k, fun j u zs hj => ?_, fun j u zs b hj hb => ?_, fun j j' u zs u' zs' b hj hj' hb hb' => ?_⟩
  · rcases hat j u zs hj with ⟨_, rfl, rfl⟩ | ⟨_, hj⟩
    · exact ho
    · exact (h.rows.own j u zs hj).keeps k (fun _ _ e => e)
  · rcases hat j u zs hj with ⟨_, rfl, rfl⟩ | ⟨_, hj⟩
    · have := hf b hb
      exact ⟨by omega, by omega, by omega⟩
    · exact h.rows.lo j u zs b hj hb
  · rcases hat j u zs hj with ⟨e, rfl, rfl⟩ | ⟨_, hk⟩
    · rcases hat j' u' zs' hj' with ⟨e', rfl, rfl⟩ | ⟨_, hk'⟩
      · omega
      · have := (h.rows.own j' u' zs' hk').lt b hb'
        have := hf b hb
        omega
    · rcases hat j' u' zs' hj' with ⟨e', rfl, rfl⟩ | ⟨_, hk'⟩
      · have := (h.rows.own j u zs hk).lt b hb
        have := hf b hb'
        omega
      · exact h.rows.sep j j' u zs u' zs' b hk hk' hb hb'

/-- Some of the rows, in another order. -/
theorem St.pick {w wr : World} {d mb n : Nat} {now : Int} {f : Int → Int} {vs vs' : List Row} (h : St w d mb n now f wr vs) (g : Nat → Nat) (hg : ∀ i p, vs'[i]? = some p → vs[g i]? = some p) (hinj : ∀ i j, g i = g j → i = j) : St w d mb n now f wr vs' :=
  ⟨h.wl, fun i v xs hi => h.rows.own _ v xs (hg i _ hi), fun i v xs b hi hb => h.rows.lo _ v xs b (hg i _ hi) hb, fun i j v xs v' xs' b hi hj hb hb' => hinj i j (h.rows.sep _ _ v xs v' xs' b (hg i _ hi) (hg j _ hj) hb hb')⟩

theorem St.begin {w wr : World} {d mb n : Nat} {now : Int} {f : Int → Int} (h : Wl w d mb n now f wr) : St w d mb n now f wr [] :=
  ⟨h, fun i v xs hi => by simp at hi, fun i v xs b hi => by simp at hi, fun i j v xs v' xs' b hi => by simp at hi⟩

theorem own_new {w : World} (k : Nat) (h : k = w.heap.size) : Own (w.alloc (.cells #[] 3)) 3 1 (.slice (some ⟨k, 0, none⟩) 0 0) 0 [] := by
  subst h
  exact World.ownsRow_lit w #[] 0 (Nat.zero_le _) (by simp [maxLen]) (by simp)

end Wh
end Go.Proofs.Ytlnoejmckpimnaa
