/- ReadyPlays: the law's own rows beside the rows of package ready; what the acts are. -/
import Derived.Test.YtmpingalekdlnaaRyH
import Derived.Test.YtmpingalekdlnaaOpens3
namespace Go.Proofs.Ytmpingalekdlnaa
open Go.RowKit Go.ChangeShapes Go.WideShapes
namespace Ry
open Dq

/-- The law's own list of slices, each an own row of numbers. -/
structure LR (wr : World) (o n : Nat) (vs : List Value) (qs : List (List Int)) : Prop where
  head : wr.heap[o]? = some (.cells vs.toArray 30 (0, 0))
  vl : vs.length = n
  ql : qs.length = n
  own : ∀ (k : Nat) (v : Value) (q : List Int), vs[k]? = some v → qs[k]? = some q → Own wr 3 1 v q.length (q.map (Value.int .i64))
  ne : ∀ (k : Nat) (v : Value) (b : Nat), vs[k]? = some v → v.ownBlock = some b → b ≠ o
  ap : ∀ (j k : Nat) (v u : Value) (b : Nat), j ≠ k → vs[j]? = some v → vs[k]? = some u → v.ownBlock = some b → u.ownBlock ≠ some b

theorem LR.keeps {S : Nat → Prop} {wr w' : World} {o n : Nat} {vs : List Value} {qs : List (List Int)} (h : LR wr o n vs qs) (kk : Keeps S wr w') (hS : ∀ b, OB o vs b → ¬ S b) : LR w' o n vs qs :=
  ⟨by rw [kk.block o (lt_of_block h.head) (hS o (.inl rfl))]; exact h.head, h.vl, h.ql, fun k v q hv hq => (h.own k v q hv hq).keeps kk (fun b hb => hS b (.inr ⟨k, v, hv, hb⟩)), h.ne, h.ap⟩

/-- One row is put in the place of another: a new one, or the old one grown. -/
theorem LR.put {wr w' : World} {o n k : Nat} {vs : List Value} {qs : List (List Int)} {v v' : Value} {q' : List Int} (h : LR wr o n vs qs) (hv : vs[k]? = some v) (ho : Own w' 3 1 v' q'.length (q'.map (Value.int .i64))) (kk : Keeps (fun b => v.ownBlock = some b) wr w')
    (hf : ∀ b, v'.ownBlock = some b → v.ownBlock = some b ∨ wr.heap.size ≤ b) : LR (w'.setCell ⟨o, k, none⟩ v') o n (vs.set k v') (qs.set k q') := by
  have hkv := (List.getElem?_eq_some_iff.1 hv).1
  have hob := lt_of_block h.head
  have hno : v.ownBlock ≠ some o := fun e => h.ne k v o hv e rfl
  have hno' : ∀ b, v'.ownBlock = some b → b ≠ o := fun b hb e => by
    rcases hf b hb with h1 | h1
    · exact hno (by rw [h1, e])
    · omega
  have k2 : Keeps (fun b => b = o) w' (w'.setCell ⟨o, k, none⟩ v') := (Keeps.refl (fun b => b = o) w').set (.inl rfl) _
  have hlt : ∀ (j : Nat) (u : Value) (b : Nat), vs[j]? = some u → u.ownBlock = some b → b < wr.heap.size := fun j u b hu hb => by
    obtain ⟨q, hq⟩ : ∃ q, qs[j]? = some q := ⟨_, List.getElem?_eq_getElem (by rw [h.ql, ← h.vl]; exact (List.getElem?_eq_some_iff.1 hu).1)⟩
    exact (h.own j u q hu hq).lt b hb
  refine ⟨?_, by rw [List.length_set]; exact h.vl, by rw [List.length_set]; exact h.ql, fun j u q hu hq => ?_, fun j u b hu hb => ?_, fun j i u x b hji hu hx hb => ?_⟩
  · have := (kk.block o hob hno).trans h.head
    rw [block_set this]
    simp
  · by_cases e : j = k
    · subst e
      rw [List.getElem?_set_self hkv] at hu
      rw [List.getElem?_set_self (by rw [h.ql, ← h.vl]; exact hkv)] at hq
      cases hu; cases hq
      exact ho.keeps k2 hno'
    · rw [List.getElem?_set_ne (Ne.symm e)] at hu hq
      exact ((h.own j u q hu hq).keeps kk (fun b hb hvb => h.ap j k u v b e hu hv hb hvb)).keeps k2 (fun b hb => h.ne j u b hu hb)
  · by_cases e : j = k
    · subst e
      rw [List.getElem?_set_self hkv] at hu
      cases hu
      exact hno' b hb
    · rw [List.getElem?_set_ne (Ne.symm e)] at hu
      exact h.ne j u b hu hb
  · by_cases e1 : j = k
    · subst e1
      rw [List.getElem?_set_self hkv] at hu
      rw [List.getElem?_set_ne hji] at hx
      cases hu
      intro hxb
      rcases hf b hb with h1 | h1
      · exact h.ap j i v x b hji hv hx h1 hxb
      · have := hlt i x b hx hxb; omega
    · rw [List.getElem?_set_ne (Ne.symm e1)] at hu
      by_cases e2 : i = k
      · subst e2
        rw [List.getElem?_set_self hkv] at hx
        cases hx
        intro hxb
        rcases hf b hxb with h1 | h1
        · exact h.ap j i u v b hji hu hv hb h1
        · have := hlt j u b hu hb; omega
      · rw [List.getElem?_set_ne (Ne.symm e2)] at hx
        exact h.ap j i u x b hji hu hx hb

/-- Rows of package ready, and the law's own that hold the same. -/
structure LawR (w : World) (r n : Nat) (qs : List (List Int)) (o : Nat) (vs : List Value) (wr : World) : Prop where
  s : RyS w r n qs (OB o vs) wr
  l : LR wr o n vs qs

theorem LawR.keeps {w wr w' : World} {r n o : Nat} {qs : List (List Int)} {vs : List Value} (h : LawR w r n qs o vs wr) (k : Keeps NoBlock wr w') : LawR w r n qs o vs w' := ⟨h.s.keeps k, h.l.keeps k (fun _ _ h => h)⟩

theorem LawR.put {w wr w0 w' : World} {r n o k : Nat} {qs : List (List Int)} {vs : List Value} {v v' : Value} {q' : List Int} (h : LR wr o n vs qs) (s : RyS w r n (qs.set k q') (OB o vs) w0) (k0 : Keeps (fun b => ¬ OB o vs b) wr w0) (hv : vs[k]? = some v)
    (ho : Own w' 3 1 v' q'.length (q'.map (Value.int .i64))) (kk : Keeps (fun b => v.ownBlock = some b) w0 w') (hf : ∀ b, v'.ownBlock = some b → v.ownBlock = some b ∨ w0.heap.size ≤ b) : LawR w r n (qs.set k q') o (vs.set k v') (w'.setCell ⟨o, k, none⟩ v') := by
  have h0 : LR w0 o n vs qs := h.keeps k0 (fun b hb hn => hn hb)
  have hkv := (List.getElem?_eq_some_iff.1 hv).1
  have k2 : Keeps (OB o vs) w0 (w'.setCell ⟨o, k, none⟩ v') := (kk.mono (fun b _ hb => (.inr ⟨k, v, hv, hb⟩ : OB o vs b))).set (.inl (.inl rfl)) _
  have hsz : (w'.setCell ⟨o, k, none⟩ v').heap.size = w'.heap.size := by simp [World.setCell]
  refine ⟨s.change k2 (fun b hb => ?_), h0.put hv ho kk hf⟩
  rw [hsz]
  have hs := kk.size
  rcases hb with rfl | ⟨j, u, hu, hb⟩
  · exact ⟨.inl (.inl rfl), by have := lt_of_block h0.head; omega⟩
  · by_cases e : j = k
    · subst e
      rw [List.getElem?_set_self hkv] at hu
      cases hu
      refine ⟨?_, ho.lt b hb⟩
      rcases hf b hb with h1 | h1
      · exact .inl (.inr ⟨j, v, hv, h1⟩)
      · exact .inr h1
    · rw [List.getElem?_set_ne (Ne.symm e)] at hu
      refine ⟨.inl (.inr ⟨j, u, hu, hb⟩), ?_⟩
      obtain ⟨q, hq⟩ : ∃ q, qs[j]? = some q := ⟨_, List.getElem?_eq_getElem (by rw [h.ql, ← h.vl]; exact (List.getElem?_eq_some_iff.1 hu).1)⟩
      have := (h0.own j u q hu hq).lt b hb
      omega

/-- A row of the law's, as a slice. -/
theorem LR.at {wr : World} {o n k : Nat} {vs : List Value} {qs : List (List Int)} {q : List Int} (h : LR wr o n vs qs) (hq : qs[k]? = some q) : ∃ A c, vs[k]? = some (.slice A q.length c) ∧ wr.cell? ⟨o, k, none⟩ = some (.slice A q.length c) ∧ Own wr 3 1 (.slice A q.length c) q.length (q.map (Value.int .i64)) := by
  obtain ⟨v, hv⟩ : ∃ v, vs[k]? = some v := ⟨_, List.getElem?_eq_getElem (by rw [h.vl, ← h.ql]; exact (List.getElem?_eq_some_iff.1 hq).1)⟩
  have ho := h.own k v q hv hq
  obtain ⟨A, c, rfl⟩ := Own.isSlice ho
  exact ⟨A, c, hv, cell_of_block h.head (by simpa using hv), ho⟩

theorem lawR_start {w wr : World} {r n : Nat} {qs : List (List Int)} (S : RyS w r n qs (fun _ => False) wr) (hq : qs = List.replicate n []) : LawR w r n qs wr.heap.size (List.replicate n (.slice none 0 0)) (wr.alloc (.cells (madeCells #[Value.slice none 0 0] n) 30)) := by
  have hnil : ∀ (k : Nat) (v : Value), (List.replicate n (Value.slice none 0 0))[k]? = some v → v = .slice none 0 0 := fun k v hv => by
    rw [List.getElem?_replicate] at hv
    split at hv
    · cases hv; rfl
    · cases hv
  refine ⟨S.change ((Keeps.refl _ wr).alloc _) (fun b hb => ?_), ⟨?_, by simp, by rw [hq]; simp, fun k v q hv hqk => ?_, fun k v b hv hb => ?_, fun j k v u b _ hv _ hb => ?_⟩⟩
  · rcases hb with rfl | ⟨j, v, hv, hb⟩
    · exact ⟨.inr (Nat.le_refl _), by simp⟩
    · rw [hnil j v hv] at hb; simp [Value.ownBlock] at hb
  · rw [block_alloc_new, show madeCells #[Value.slice none 0 0] n = (List.replicate n (Value.slice none 0 0)).toArray from made_rep (.slice none 0 0) rfl n]
  · rw [hnil k v hv]
    rw [hq, List.getElem?_replicate] at hqk
    split at hqk
    · cases hqk; exact World.ownsRow_nil _ _ _ _
    · cases hqk
  · rw [hnil k v hv] at hb; simp [Value.ownBlock] at hb
  · rw [hnil j v hv] at hb; simp [Value.ownBlock] at hb

/-! What the acts are. -/
structure PAct where
  pick : Bool
  proc : Int
  thread : Int

def encP (a : PAct) : List Value := [.bool a.pick, .int .i64 a.proc, .int .i64 a.thread]
theorem encP_len (a : PAct) : (encP a).length = 3 := rfl

section
variable {H : Type} {enc0 : TypeId × Value → H} {W : World} {base : Nat} {spare : Nat → Bool} {held : Bool}

theorem opens_pact : Opens enc0 Try.prog W base spare held (fun (a : PAct) cs => cs = encP a) 27 := by
  refine opens_structN Try.underlying27 (fun cs hl hf => ?_)
  rw [show Try.prog.cellsOf 27 = 3 by kernel_rfl] at hl
  obtain ⟨n0, y0, t0, _⟩ := hf 0 _ rfl
  obtain ⟨n1, y1, t1, _⟩ := hf 1 _ rfl
  obtain ⟨n2, y2, t2, _⟩ := hf 2 _ rfl
  obtain ⟨x0, e0, _⟩ := DataW.trod_bool Try.underlying4 (cell1 (c := 1) (t := 4) (o := 0) (by kernel_rfl) t0)
  obtain ⟨x1, e1, _⟩ := DataW.trod_int Try.underlying3 (cell1 (c := 1) (t := 3) (o := 1) (by kernel_rfl) t1)
  obtain ⟨x2, e2, _⟩ := DataW.trod_int Try.underlying3 (cell1 (c := 1) (t := 3) (o := 2) (by kernel_rfl) t2)
  match cs, hl with
  | [a, b, c], _ =>
    simp at e0 e1 e2
    subst e0 e1 e2
    exact ⟨⟨x0, x1, x2⟩, rfl⟩

def PActsAt (W : World) (v : Value) (l : List PAct) : Prop := Rd encP 3 W v l ∧ l.length ≤ 1000000000000000

theorem pacts_arg {ts : List TypeId} {ds : List (DataW H)} {j : Nat} {v : Value} {d : DataW H} {ps : List MemPlace} {r : Reach} {b0 : Nat} (hsz : (DataW.weightsEach Try.prog ts ds).all (· ≤ reachBytes) = true) (ht : ts[j]? = some 22) (hd : ds[j]? = some d)
    (hv : Value.okWide Try.prog W r b0 22 v) (h : DataW.Trod enc0 Try.prog W base spare held 22 v d ps) : ∃ l, PActsAt W v l := by
  obtain ⟨a, len, cap, rfl⟩ := okWide_slice Try.underlying22 hv
  obtain ⟨l, hl⟩ := opens_arg hsz ht hd h (opens_slice (sz := 3) (B := 24) Try.underlying22 (by kernel_rfl) (by decide) (by kernel_rfl) opens_pact)
  have hb : l.length * 24 ≤ 140737488351232 := by
    obtain ⟨_, _, _, _, _, _, hb, _⟩ := hl
    exact hb
  exact ⟨l, rd_of_sl hl (by decide) encP_len, by omega⟩
end
end Ry
end Go.Proofs.Ytmpingalekdlnaa
