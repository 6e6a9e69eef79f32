/- TubePlays: the tube, and the law's own four rows. -/
import Derived.Test.YtgepedfipfobjaaTubeI
namespace Go.Proofs.Ytgepedfipfobjaa
open Go.RowKit
namespace Tb

/-- A row of the law's own, of colour i. -/
structure MRow (mc : Nat → Nat) (w : World) (i : Nat) (k : IntKind) (el : TypeId) (v : Value) (xs : List Int) : Prop where
  own : Own w el 1 v xs.length (xs.map (Value.int k))
  col : ∀ b, v.ownBlock = some b → mc b = i

theorem MRow.keeps {mc : Nat → Nat} {w w' : World} {i : Nat} {k : IntKind} {el : TypeId} {v : Value} {xs : List Int} {S : Nat → Prop} (h : MRow mc w i k el v xs) (kp : Keeps S w w') (hS : ∀ b, mc b = i → ¬ S b) : MRow mc w' i k el v xs :=
  ⟨h.own.keeps kp (fun b hb => hS b (h.col b hb)), h.col⟩

theorem MRow.other {mc : Nat → Nat} {w w' : World} {i j : Nat} {k k0 : IntKind} {el el0 : TypeId} {v v0 v' : Value} {xs xs0 : List Int} (h : MRow mc w i k el v xs) (h0 : MRow mc w j k0 el0 v0 xs0) (hij : i ≠ j) (kp : Keeps (fun b => v0.ownBlock = some b) w w')
    (hf : ∀ b, v'.ownBlock = some b → v0.ownBlock = some b ∨ w.heap.size ≤ b) : MRow (paint mc v' j) w' i k el v xs :=
  ⟨h.own.keeps kp (fun b hb hb' => hij (by rw [← h.col b hb, h0.col b hb'])), fun b hb => by
    rw [paint_old h0.col hf b (h.own.lt b hb)]; exact h.col b hb⟩

theorem MRow.self {mc : Nat → Nat} {w' : World} {j : Nat} {k : IntKind} {el : TypeId} {v' : Value} {xs' : List Int} (ho : Own w' el 1 v' xs'.length (xs'.map (Value.int k))) : MRow (paint mc v' j) w' j k el v' xs' :=
  ⟨ho, fun b hb => by unfold paint; rw [if_pos hb]⟩

/-- The tube, and four rows. -/
structure Env (w : World) (t : Nat) (R : Int) (s : St) (mc col : Nat → Nat) (v7 v8 v9 v10 : Value) (l7 l8 l9 l10 : List Int) (wr : World) : Prop where
  T : TubeS col wr t R s
  m7 : MRow mc wr 1 .u64 27 v7 l7
  m8 : MRow mc wr 2 .i64 3 v8 l8
  m9 : MRow mc wr 3 .i64 3 v9 l9
  m10 : MRow mc wr 4 .u64 27 v10 l10
  ap : ∀ k, mc k ≠ 0 → col k = 0
  mlt : ∀ k, mc k ≠ 0 → k < wr.heap.size
  mfr : ∀ k, mc k ≠ 0 → w.heap.size ≤ k
  fr : Fresh w.heap.size col
  kp : Keeps NoBlock w wr

def EnvX (w : World) (t : Nat) (R : Int) (s : St) (v7 v8 v9 v10 : Value) (l7 l8 l9 l10 : List Int) (wr : World) : Prop := ∃ mc col, Env w t R s mc col v7 v8 v9 v10 l7 l8 l9 l10 wr

theorem Env.tube {w wr w' : World} {t : Nat} {R : Int} {s s' : St} {mc col col' : Nat → Nat} {v7 v8 v9 v10 : Value} {l7 l8 l9 l10 : List Int} (h : Env w t R s mc col v7 v8 v9 v10 l7 l8 l9 l10 wr) (T' : TubeS col' w' t R s') (n : Next col col' wr w') : Env w t R s' mc col' v7 v8 v9 v10 l7 l8 l9 l10 w' := by
  have hS : ∀ i, i ≠ 0 → ∀ b, mc b = i → ¬ col b ≠ 0 := fun i hi b hb hc => hc (h.ap b (by rw [hb]; exact hi))
  exact ⟨T', h.m7.keeps n.1 (hS 1 (by decide)), h.m8.keeps n.1 (hS 2 (by decide)), h.m9.keeps n.1 (hS 3 (by decide)), h.m10.keeps n.1 (hS 4 (by decide)),
    fun k hk => by rw [n.2 k (h.mlt k hk)]; exact h.ap k hk, fun k hk => Nat.lt_of_lt_of_le (h.mlt k hk) n.1.size, h.mfr, h.fr.next n h.kp.size, h.fr.keep n h.kp rfl⟩

theorem Env.keeps {w wr w' : World} {t : Nat} {R : Int} {s : St} {mc col : Nat → Nat} {v7 v8 v9 v10 : Value} {l7 l8 l9 l10 : List Int} (h : Env w t R s mc col v7 v8 v9 v10 l7 l8 l9 l10 wr) (k : Keeps NoBlock wr w') : Env w t R s mc col v7 v8 v9 v10 l7 l8 l9 l10 w' :=
  h.tube (h.T.keeps k (fun _ _ h => h)) ⟨k.mono (fun _ _ h => h.elim), fun _ _ => rfl⟩

theorem EnvX.keeps {w wr w' : World} {t : Nat} {R : Int} {s : St} {v7 v8 v9 v10 : Value} {l7 l8 l9 l10 : List Int} (h : EnvX w t R s v7 v8 v9 v10 l7 l8 l9 l10 wr) (k : Keeps NoBlock wr w') : EnvX w t R s v7 v8 v9 v10 l7 l8 l9 l10 w' := by
  obtain ⟨mc, col, h⟩ := h
  exact ⟨mc, col, h.keeps k⟩

theorem EnvX.set7 {w wr w' : World} {t : Nat} {R : Int} {s : St} {v7 v8 v9 v10 v' : Value} {l7 l8 l9 l10 l' : List Int} (hx : EnvX w t R s v7 v8 v9 v10 l7 l8 l9 l10 wr) (ho : Own w' 27 1 v' l'.length (l'.map (Value.int .u64))) (kp : Keeps (fun b => v7.ownBlock = some b) wr w')
    (hf : ∀ b, v'.ownBlock = some b → v7.ownBlock = some b ∨ wr.heap.size ≤ b) : EnvX w t R s v' v8 v9 v10 l' l8 l9 l10 w' := by
  obtain ⟨mc, col, h⟩ := hx
  have hp := paint_old h.m7.col hf
  have hmcz : ∀ k, paint mc v' 1 k ≠ 0 → k < wr.heap.size → mc k ≠ 0 := fun k hk hlt => by rw [hp k hlt] at hk; exact hk
  refine ⟨paint mc v' 1, col, h.T.keeps kp (fun b hb hb' => hb (h.ap b (by rw [h.m7.col b hb']; decide))), MRow.self ho, h.m8.other h.m7 (by decide) kp hf, h.m9.other h.m7 (by decide) kp hf, h.m10.other h.m7 (by decide) kp hf, fun k hk => ?_, fun k hk => ?_, fun k hk => ?_, h.fr, h.kp.trans kp (fun k hk hk' => ?_)⟩
  · by_cases hlt : k < wr.heap.size
    · exact h.ap k (hmcz k hk hlt)
    · cases hc : col k with
      | zero => rfl
      | succ n => exact absurd (h.T.flt k (by rw [hc]; omega)) hlt
  · unfold paint at hk
    split at hk
    · rename_i hb; exact ho.lt k hb
    · exact Nat.lt_of_lt_of_le (h.mlt k hk) kp.size
  · by_cases hlt : k < wr.heap.size
    · exact h.mfr k (hmcz k hk hlt)
    · have := h.kp.size; omega
  · have := h.mfr k (by rw [h.m7.col k hk']; decide)
    omega
theorem EnvX.app7 {w wr W w' : World} {t : Nat} {R : Int} {s : St} {v7 v8 v9 v10 v' : Value} {l7 l8 l9 l10 : List Int} (hx : EnvX w t R s v7 v8 v9 v10 l7 l8 l9 l10 wr) (kW : Keeps NoBlock wr W) (x : Int) (n : Nat) (hn : l7.length = n) (ho : Own w' 27 1 v' (n + 1) (l7.map (Value.int .u64) ++ [.int .u64 x]))
    (hg : World.grownBy W w' v7.ownBlock) (hf : ∀ b, v'.ownBlock = some b → v7.ownBlock = some b ∨ W.heap.size ≤ b) : (fun l' => EnvX w t R s v' v8 v9 v10 l' l8 l9 l10 w') (l7 ++ [x]) :=
  hx.set7 (l' := l7 ++ [x]) (by rw [List.length_append, List.length_singleton, hn, List.map_append]; exact ho) ((kW.mono (fun _ _ h => h.elim)).grown hg (fun k hk => .inl hk)) (fun b hb => by
    rcases hf b hb with h | h
    · exact .inl h
    · exact .inr (Nat.le_trans kW.size h))

theorem EnvX.new7 {w wr w' : World} {t : Nat} {R : Int} {s : St} {v7 v8 v9 v10 v' : Value} {l7 l8 l9 l10 l' : List Int} (hx : EnvX w t R s v7 v8 v9 v10 l7 l8 l9 l10 wr) (ho : Own w' 27 1 v' l'.length (l'.map (Value.int .u64))) (kp : Keeps NoBlock wr w')
    (hf : ∀ b, v'.ownBlock = some b → wr.heap.size ≤ b) : EnvX w t R s v' v8 v9 v10 l' l8 l9 l10 w' :=
  hx.set7 ho (kp.mono (fun _ _ h => h.elim)) (fun b hb => .inr (hf b hb))
theorem EnvX.set8 {w wr w' : World} {t : Nat} {R : Int} {s : St} {v7 v8 v9 v10 v' : Value} {l7 l8 l9 l10 l' : List Int} (hx : EnvX w t R s v7 v8 v9 v10 l7 l8 l9 l10 wr) (ho : Own w' 3 1 v' l'.length (l'.map (Value.int .i64))) (kp : Keeps (fun b => v8.ownBlock = some b) wr w')
    (hf : ∀ b, v'.ownBlock = some b → v8.ownBlock = some b ∨ wr.heap.size ≤ b) : EnvX w t R s v7 v' v9 v10 l7 l' l9 l10 w' := by
  obtain ⟨mc, col, h⟩ := hx
  have hp := paint_old h.m8.col hf
  have hmcz : ∀ k, paint mc v' 2 k ≠ 0 → k < wr.heap.size → mc k ≠ 0 := fun k hk hlt => by rw [hp k hlt] at hk; exact hk
  refine ⟨paint mc v' 2, col, h.T.keeps kp (fun b hb hb' => hb (h.ap b (by rw [h.m8.col b hb']; decide))), h.m7.other h.m8 (by decide) kp hf, MRow.self ho, h.m9.other h.m8 (by decide) kp hf, h.m10.other h.m8 (by decide) kp hf, fun k hk => ?_, fun k hk => ?_, fun k hk => ?_, h.fr, h.kp.trans kp (fun k hk hk' => ?_)⟩
  · by_cases hlt : k < wr.heap.size
    · exact h.ap k (hmcz k hk hlt)
    · cases hc : col k with
      | zero => rfl
      | succ n => exact absurd (h.T.flt k (by rw [hc]; omega)) hlt
  · unfold paint at hk
    split at hk
    · rename_i hb; exact ho.lt k hb
    · exact Nat.lt_of_lt_of_le (h.mlt k hk) kp.size
  · by_cases hlt : k < wr.heap.size
    · exact h.mfr k (hmcz k hk hlt)
    · have := h.kp.size; omega
  · have := h.mfr k (by rw [h.m8.col k hk']; decide)
    omega
theorem EnvX.app8 {w wr W w' : World} {t : Nat} {R : Int} {s : St} {v7 v8 v9 v10 v' : Value} {l7 l8 l9 l10 : List Int} (hx : EnvX w t R s v7 v8 v9 v10 l7 l8 l9 l10 wr) (kW : Keeps NoBlock wr W) (x : Int) (n : Nat) (hn : l8.length = n) (ho : Own w' 3 1 v' (n + 1) (l8.map (Value.int .i64) ++ [.int .i64 x]))
    (hg : World.grownBy W w' v8.ownBlock) (hf : ∀ b, v'.ownBlock = some b → v8.ownBlock = some b ∨ W.heap.size ≤ b) : (fun l' => EnvX w t R s v7 v' v9 v10 l7 l' l9 l10 w') (l8 ++ [x]) :=
  hx.set8 (l' := l8 ++ [x]) (by rw [List.length_append, List.length_singleton, hn, List.map_append]; exact ho) ((kW.mono (fun _ _ h => h.elim)).grown hg (fun k hk => .inl hk)) (fun b hb => by
    rcases hf b hb with h | h
    · exact .inl h
    · exact .inr (Nat.le_trans kW.size h))

theorem EnvX.new8 {w wr w' : World} {t : Nat} {R : Int} {s : St} {v7 v8 v9 v10 v' : Value} {l7 l8 l9 l10 l' : List Int} (hx : EnvX w t R s v7 v8 v9 v10 l7 l8 l9 l10 wr) (ho : Own w' 3 1 v' l'.length (l'.map (Value.int .i64))) (kp : Keeps NoBlock wr w')
    (hf : ∀ b, v'.ownBlock = some b → wr.heap.size ≤ b) : EnvX w t R s v7 v' v9 v10 l7 l' l9 l10 w' :=
  hx.set8 ho (kp.mono (fun _ _ h => h.elim)) (fun b hb => .inr (hf b hb))
theorem EnvX.set9 {w wr w' : World} {t : Nat} {R : Int} {s : St} {v7 v8 v9 v10 v' : Value} {l7 l8 l9 l10 l' : List Int} (hx : EnvX w t R s v7 v8 v9 v10 l7 l8 l9 l10 wr) (ho : Own w' 3 1 v' l'.length (l'.map (Value.int .i64))) (kp : Keeps (fun b => v9.ownBlock = some b) wr w')
    (hf : ∀ b, v'.ownBlock = some b → v9.ownBlock = some b ∨ wr.heap.size ≤ b) : EnvX w t R s v7 v8 v' v10 l7 l8 l' l10 w' := by
  obtain ⟨mc, col, h⟩ := hx
  have hp := paint_old h.m9.col hf
  have hmcz : ∀ k, paint mc v' 3 k ≠ 0 → k < wr.heap.size → mc k ≠ 0 := fun k hk hlt => by rw [hp k hlt] at hk; exact hk
  refine ⟨paint mc v' 3, col, h.T.keeps kp (fun b hb hb' => hb (h.ap b (by rw [h.m9.col b hb']; decide))), h.m7.other h.m9 (by decide) kp hf, h.m8.other h.m9 (by decide) kp hf, MRow.self ho, h.m10.other h.m9 (by decide) kp hf, fun k hk => ?_, fun k hk => ?_, fun k hk => ?_, h.fr, h.kp.trans kp (fun k hk hk' => ?_)⟩
  · by_cases hlt : k < wr.heap.size
    · exact h.ap k (hmcz k hk hlt)
    · cases hc : col k with
      | zero => rfl
      | succ n => exact absurd (h.T.flt k (by rw [hc]; omega)) hlt
  · unfold paint at hk
    split at hk
    · rename_i hb; exact ho.lt k hb
    · exact Nat.lt_of_lt_of_le (h.mlt k hk) kp.size
  · by_cases hlt : k < wr.heap.size
    · exact h.mfr k (hmcz k hk hlt)
    · have := h.kp.size; omega
  · have := h.mfr k (by rw [h.m9.col k hk']; decide)
    omega
theorem EnvX.app9 {w wr W w' : World} {t : Nat} {R : Int} {s : St} {v7 v8 v9 v10 v' : Value} {l7 l8 l9 l10 : List Int} (hx : EnvX w t R s v7 v8 v9 v10 l7 l8 l9 l10 wr) (kW : Keeps NoBlock wr W) (x : Int) (n : Nat) (hn : l9.length = n) (ho : Own w' 3 1 v' (n + 1) (l9.map (Value.int .i64) ++ [.int .i64 x]))
    (hg : World.grownBy W w' v9.ownBlock) (hf : ∀ b, v'.ownBlock = some b → v9.ownBlock = some b ∨ W.heap.size ≤ b) : (fun l' => EnvX w t R s v7 v8 v' v10 l7 l8 l' l10 w') (l9 ++ [x]) :=
  hx.set9 (l' := l9 ++ [x]) (by rw [List.length_append, List.length_singleton, hn, List.map_append]; exact ho) ((kW.mono (fun _ _ h => h.elim)).grown hg (fun k hk => .inl hk)) (fun b hb => by
    rcases hf b hb with h | h
    · exact .inl h
    · exact .inr (Nat.le_trans kW.size h))

theorem EnvX.new9 {w wr w' : World} {t : Nat} {R : Int} {s : St} {v7 v8 v9 v10 v' : Value} {l7 l8 l9 l10 l' : List Int} (hx : EnvX w t R s v7 v8 v9 v10 l7 l8 l9 l10 wr) (ho : Own w' 3 1 v' l'.length (l'.map (Value.int .i64))) (kp : Keeps NoBlock wr w')
    (hf : ∀ b, v'.ownBlock = some b → wr.heap.size ≤ b) : EnvX w t R s v7 v8 v' v10 l7 l8 l' l10 w' :=
  hx.set9 ho (kp.mono (fun _ _ h => h.elim)) (fun b hb => .inr (hf b hb))
theorem EnvX.set10 {w wr w' : World} {t : Nat} {R : Int} {s : St} {v7 v8 v9 v10 v' : Value} {l7 l8 l9 l10 l' : List Int} (hx : EnvX w t R s v7 v8 v9 v10 l7 l8 l9 l10 wr) (ho : Own w' 27 1 v' l'.length (l'.map (Value.int .u64))) (kp : Keeps (fun b => v10.ownBlock = some b) wr w')
    (hf : ∀ b, v'.ownBlock = some b → v10.ownBlock = some b ∨ wr.heap.size ≤ b) : EnvX w t R s v7 v8 v9 v' l7 l8 l9 l' w' := by
  obtain ⟨mc, col, h⟩ := hx
  have hp := paint_old h.m10.col hf
  have hmcz : ∀ k, paint mc v' 4 k ≠ 0 → k < wr.heap.size → mc k ≠ 0 := fun k hk hlt => by rw [hp k hlt] at hk; exact hk
  refine ⟨paint mc v' 4, col, h.T.keeps kp (fun b hb hb' => hb (h.ap b (by rw [h.m10.col b hb']; decide))), h.m7.other h.m10 (by decide) kp hf, h.m8.other h.m10 (by decide) kp hf, h.m9.other h.m10 (by decide) kp hf, MRow.self ho, fun k hk => ?_, fun k hk => ?_, fun k hk => ?_, h.fr, h.kp.trans kp (fun k hk hk' => ?_)⟩
  · by_cases hlt : k < wr.heap.size
    · exact h.ap k (hmcz k hk hlt)
    · cases hc : col k with
      | zero => rfl
      | succ n => exact absurd (h.T.flt k (by rw [hc]; omega)) hlt
  · unfold paint at hk
    split at hk
    · rename_i hb; exact ho.lt k hb
    · exact Nat.lt_of_lt_of_le (h.mlt k hk) kp.size
  · by_cases hlt : k < wr.heap.size
    · exact h.mfr k (hmcz k hk hlt)
    · have := h.kp.size; omega
  · have := h.mfr k (by rw [h.m10.col k hk']; decide)
    omega
theorem EnvX.app10 {w wr W w' : World} {t : Nat} {R : Int} {s : St} {v7 v8 v9 v10 v' : Value} {l7 l8 l9 l10 : List Int} (hx : EnvX w t R s v7 v8 v9 v10 l7 l8 l9 l10 wr) (kW : Keeps NoBlock wr W) (x : Int) (n : Nat) (hn : l10.length = n) (ho : Own w' 27 1 v' (n + 1) (l10.map (Value.int .u64) ++ [.int .u64 x]))
    (hg : World.grownBy W w' v10.ownBlock) (hf : ∀ b, v'.ownBlock = some b → v10.ownBlock = some b ∨ W.heap.size ≤ b) : (fun l' => EnvX w t R s v7 v8 v9 v' l7 l8 l9 l' w') (l10 ++ [x]) :=
  hx.set10 (l' := l10 ++ [x]) (by rw [List.length_append, List.length_singleton, hn, List.map_append]; exact ho) ((kW.mono (fun _ _ h => h.elim)).grown hg (fun k hk => .inl hk)) (fun b hb => by
    rcases hf b hb with h | h
    · exact .inl h
    · exact .inr (Nat.le_trans kW.size h))

theorem EnvX.new10 {w wr w' : World} {t : Nat} {R : Int} {s : St} {v7 v8 v9 v10 v' : Value} {l7 l8 l9 l10 l' : List Int} (hx : EnvX w t R s v7 v8 v9 v10 l7 l8 l9 l10 wr) (ho : Own w' 27 1 v' l'.length (l'.map (Value.int .u64))) (kp : Keeps NoBlock wr w')
    (hf : ∀ b, v'.ownBlock = some b → wr.heap.size ≤ b) : EnvX w t R s v7 v8 v9 v' l7 l8 l9 l' w' :=
  hx.set10 ho (kp.mono (fun _ _ h => h.elim)) (fun b hb => .inr (hf b hb))

theorem tail_addr {w : World} {el : TypeId} {g c n : Nat} {x : Value} {xs : List Value} (h : Own w el 1 (.slice (some ⟨g, 0, none⟩) (n + 1) c) (n + 1) (x :: xs)) :
    ∃ Ad : Addr, (if c = 1 then some (⟨g, 0, none⟩ : Addr) else some ⟨g, 1, none⟩) = some Ad ∧ Hid (∀ W, Keeps NoBlock w W → ∀ j u, xs[j]? = some u → W.cell? (Ad.add j) = some u) := by
  have hl := h.1
  simp only [List.length_cons, Nat.mul_one] at hl
  have hcn : n + 1 ≤ c := by
    rcases Own.form h with ⟨h0, _⟩ | ⟨g', c', h0, _, h1, _⟩
    · cases h0
    · cases h0; exact h1
  by_cases hc : c = 1
  · refine ⟨⟨g, 0, none⟩, by simp [hc], fun W _ j u hj => ?_⟩
    have h0 : xs = [] := List.eq_nil_of_length_eq_zero (by omega)
    subst h0
    simp at hj
  · refine ⟨⟨g, 1, none⟩, by simp [hc], fun W kp j u hj => ?_⟩
    have hjl := (List.getElem?_eq_some_iff.1 hj).1
    rw [Addr.add_lit, kp.cell (h.lt g rfl) (fun h => h), World.ownsRow.cellAt h (1 + j) (by omega), show 1 + j = j + 1 by omega, List.getElem?_cons_succ]
    exact hj

/-- append([]T{}, xs[1:]...) has made a new row. -/
theorem tail_new {w w' : World} {o : Obj} {el : TypeId} {k : IntKind} {A : Option Addr} {n m c : Nat} {xs : List Int} (hn : xs.length = n) (hm : m = n) (ho : Own w' el 1 (.slice A m c) m ([] ++ xs.map (Value.int k))) (hg : World.grownBy (w.alloc o) w' (Value.slice (some ⟨w.heap.size, 0, none⟩) 0 0).ownBlock)
    (hf : ∀ b, (Value.slice A m c).ownBlock = some b → (Value.slice (some ⟨w.heap.size, 0, none⟩) 0 0).ownBlock = some b ∨ w.heap.size + 1 ≤ b) :
    Own w' el 1 (.slice A n c) xs.length (xs.map (Value.int k)) ∧ Keeps NoBlock w w' ∧ ∀ b, (Value.slice A n c).ownBlock = some b → w.heap.size ≤ b := by
  subst hm
  subst hn
  refine ⟨ho, ((Keeps.refl NoBlock w).alloc _).grown hg (fun j hj => .inr (by simp only [Value.ownBlock, Option.some.injEq] at hj; omega)), fun b hb => ?_⟩
  rcases hf b hb with h | h
  · simp only [Value.ownBlock, Option.some.injEq] at h; omega
  · omega
end Tb
end Go.Proofs.Ytgepedfipfobjaa
