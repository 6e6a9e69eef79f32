/- A range over a function whose iterator keeps its state in one cell of its own (block B): its contract, and the law for the loop. -/
import Derived.Test.YthjefffefomioaaDoorMem
import Derived.RangeFuncMany
import Derived.RangeFuncKeeps
namespace Go.Proofs.YthjefffefomioaaDoor
open Go.RowKit
namespace Tl

/-- What the iterator hands over, one after the other; it turns no block but B. -/
def GivesB {α : Type} (F : Fence) (n : Nat) (P : Program) (g : Nat) (lb : Array Value) (B : Nat) (encs : α → Array Value) (xs : List α) (W : World) : Prop :=
  ∀ (l : Nat) (J Jx : List α → World → Prop), (∀ pre A A', J pre A → Keeps (fun b => b = B) A A' → J pre A') →
    (∀ pre x rest W1, xs = pre ++ x :: rest → J pre W1 → YieldAt F (n - 1) P l (encs x) W1 fun e W' => (e = .returned (.bool true) ∧ J (pre ++ [x]) W' ∧ W'.heap[B]? = W1.heap[B]?) ∨ (e = .returned (.bool false) ∧ ∃ c, (∃ t, xs = pre ++ x :: t) ∧ c = pre ++ [x] ∧ Jx c W')) →
    J [] W → CallsIn F n P g (#[.func (.yield l) #[] #[]] ++ lb) W fun e W' => (∃ v, e = .returned v) ∧ (J xs W' ∨ ∃ pre, Jx pre W')

/-- How a round may be left. -/
def postB {α : Type} (K : Nat → Prop) (I : List α → World → Prop) (Ix : Code → List α → World → Prop) (xs : List α) (W : World) : Exit → Act → World → Prop
  | .normal, _, W' => Keeps (fun b => ¬ K b) W W' ∧ I xs W'
  | .ret, _, W' => Keeps (fun b => ¬ K b) W W' ∧ Ix .ret xs W'
  | .exit id, _, W' => Keeps (fun b => ¬ K b) W W' ∧ Ix (.exit id) xs W'
  | .goto t, _, W' => Keeps (fun b => ¬ K b) W W' ∧ Ix (.goto t) xs W'
  | .panic _, _, _ => False
  | .outgrown, _, _ => False

/-- The blocks of the loop itself: the iterator's cell, the deferred calls', the record's. -/
def KB (B : Nat) (w : World) (b : Nat) : Prop := b = B ∨ b = w.heap.size ∨ b = w.heap.size + 1

theorem Keeps.putObj {S : Nat → Prop} {a w : World} (h : Keeps S a w) {l : Nat} (hl : S l ∨ a.heap.size ≤ l) (o : Obj) : Keeps S a (w.putObj l o) :=
  ⟨h.os, h.tape, h.output, by simpa using h.size, fun b hb hn => by
    rw [World.putObj_heap_other (fun e => by
      subst e
      rcases hl with h1 | h1
      · exact hn h1
      · omega)]
    exact h.block b hb hn⟩

variable {F : Fence} {n : Nat} {P : Program}

theorem wpIn_rangeB {α : Type} {g : Operand} {ps : Array Tmp} {assign body : Code} {Q : Exit → Act → World → Prop} {a : Act} {w : World}
    (hro : F.round = none) (h1 : 1 ≤ n) {gf : Nat} {lb : Array Value} (hg : a.eval g = .func (.func gf) #[] lb) (hFg : F.fn gf) (eg : ∀ args w, (callFunc gf args).run P w = .ok (.enter gf args) w)
    {encs : α → Array Value} {B : Nat} {xs : List α} (hB : B < w.heap.size) (hseq : ∀ W, Keeps NoBlock w W → GivesB F (n - 1) P gf lb B encs xs W) (hps : ∀ x, (encs x).size = ps.size)
    (I : List α → World → Prop) (Ix : Code → List α → World → Prop) (hI : ∀ pre A A', I pre A → Keeps (KB B w) A A' → I pre A') (hIx : ∀ c pre A A', Ix c pre A → Keeps (KB B w) A A' → Ix c pre A')
    (h0 : ∀ W, Keeps NoBlock w W → I [] W) (a₁ : α → Act)
    (hassign : ∀ (l : Nat) (x : α) (W : World) (K : Act → World → Prop), K (a₁ x) W →
      assign.wpIn (F.inRound l) (n - 1 - 1) P (Exit.then K (fun _ _ _ => False)) { tmps := (ps.zip (encs x)).foldl (fun t (p, v) => t.setIfInBounds p v) a.tmps, defers := [] } W)
    (hbody : ∀ (l : Nat) (pre : List α) (x : α) (rest : List α) (W : World), xs = pre ++ x :: rest → I pre W → w.heap.size + 2 ≤ W.heap.size → body.wpIn (F.inRound l) (n - 1 - 1) P (postB (KB B w) I Ix (pre ++ [x]) W) (a₁ x) W)
    (hdone : ∀ (W : World), I xs W → W.heap[w.heap.size]? = some (.deferred (some [])) → w.heap.size < W.heap.size → Q .normal { a with defers := { target := .collected w.heap.size, args := #[] } :: a.defers } W)
    (hstop : ∀ (c : Code) (pre : List α) (W : World), Ix c pre W → W.heap[w.heap.size]? = some (.deferred (some [])) → c.wpIn F n P Q { a with defers := { target := .collected w.heap.size, args := #[] } :: a.defers } W) :
    (Code.rangeFunc g ps assign body).wpIn F n P Q a w := by
  refine wpIn_rangeFunc ?_
  intro fn hfn
  rw [hro]
  obtain ⟨rec, hrec⟩ : ∃ rec : LoopState → Option Code → Loop, rec = fun st pe => { state := st, pending := pe, fn, tmps := a.tmps, params := ps, assign, body, defers := w.heap.size } := ⟨_, rfl⟩
  obtain ⟨W1, hW1⟩ : ∃ W1, (w.alloc (.deferred (some []))).alloc (.loop (rec .ready none)) = W1 := ⟨_, rfl⟩
  have kW1 : Keeps NoBlock w W1 := by rw [← hW1]; exact ((Keeps.refl NoBlock w).alloc _).alloc _
  have hs1 : W1.heap.size = w.heap.size + 2 := by rw [← hW1, World.size_alloc, World.size_alloc]
  have hL1 : W1.heap[w.heap.size + 1]? = some (.loop (rec .ready none)) := by
    rw [← hW1]; exact blk_new (by rw [World.size_alloc])
  have hD1 : W1.heap[w.heap.size]? = some (.deferred (some [])) := by
    rw [← hW1]; exact block_alloc_old (blk_new rfl)
  refine ⟨w.heap.size + 1, [{ target := .collected w.heap.size, args := #[] }], W1, { target := .fn (.func gf) lb, args := #[.func (.yield (w.heap.size + 1)) #[] #[]] }, W1, gf,
    #[.func (.yield (w.heap.size + 1)) #[] #[]] ++ lb, W1, ?_, ?_, ?_, ?_, fun _ => h1, ?_⟩
  · rw [← hW1, hrec]; exact run_enterLoop_outer _ _ _ _ _
  · simp only [resolve, hg]
    simp [go_sem]
  · intro f' hf'; simp [Target.leads] at hf'; subst hf'; exact hFg
  · simp [invoke, go_sem, eg]
  · have kp : ∀ (A A' : World), Keeps (fun b => b = B) A A' → w.heap.size + 2 ≤ A.heap.size → A'.heap[w.heap.size + 1]? = A.heap[w.heap.size + 1]? ∧ A'.heap[w.heap.size]? = A.heap[w.heap.size]? := fun A A' k hA =>
      ⟨k.block _ (by omega) (by omega), k.block _ (by omega) (by omega)⟩
    refine ((hseq W1 kW1) (w.heap.size + 1)
      (fun pre W => I pre W ∧ W.heap[w.heap.size + 1]? = some (.loop (rec .ready none)) ∧ W.heap[w.heap.size]? = some (.deferred (some [])) ∧ w.heap.size + 2 ≤ W.heap.size)
      (fun pre W => ∃ c, Ix c pre W ∧ W.heap[w.heap.size + 1]? = some (.loop (rec .done (some c))) ∧ W.heap[w.heap.size]? = some (.deferred (some [])) ∧ w.heap.size + 2 ≤ W.heap.size)
      (fun pre A A' hs k => by
        obtain ⟨hi, hl, hd, hz⟩ := hs
        obtain ⟨e1, e2⟩ := kp A A' k hz
        exact ⟨hI pre A A' hi (k.mono (fun b _ e => .inl e)), e1.trans hl, e2.trans hd, Nat.le_trans hz k.size⟩)
      ?_ ⟨h0 W1 kW1, hL1, hD1, by omega⟩).mono ?_
    · -- one round
      rintro pre x rest W hxs ⟨hi, hl, hd, hz⟩
      have hlt : w.heap.size + 1 < W.heap.size := by omega
      have hy := run_yield (P := P) (args := encs x) hl (by rw [hrec]; exact hps x)
      rw [hrec] at hy
      refine ⟨fn, _, assign, body, hy, roundIn_of_wpIn hfn (hassign _ x W _ ⟨_, run_beginRound hl (by rw [hrec]), ?_⟩)⟩
      obtain ⟨W2, hW2⟩ : ∃ W2, W.putObj (w.heap.size + 1) (.loop { rec .ready none with state := .busy }) = W2 := ⟨_, rfl⟩
      have k2 : Keeps (fun b => b = w.heap.size + 1) W W2 := by rw [← hW2]; exact Keeps.putObj (S := fun b => b = w.heap.size + 1) (Keeps.refl _ _) (.inl rfl) _
      have hl2 : W2.heap[w.heap.size + 1]? = some (.loop { rec .ready none with state := .busy }) := by rw [← hW2]; exact World.putObj_heap_same hlt
      have hd2 : W2.heap[w.heap.size]? = some (.deferred (some [])) := (k2.block _ (by omega) (by omega)).trans hd
      have hz2 : w.heap.size + 2 ≤ W2.heap.size := Nat.le_trans hz k2.size
      have hB2 : W2.heap[B]? = W.heap[B]? := k2.block _ (by omega) (by omega)
      rw [hW2]
      refine wpIn_mono (hbody _ pre x rest W2 hxs (hI pre W W2 hi (k2.mono (fun b _ e => .inr (.inr e)))) hz2) ?_
      have fin : ∀ (jump : Option Code) (W3 : World), Keeps (fun b => ¬ KB B w b) W2 W3 →
          (Instr.endRound (w.heap.size + 1) jump).run P W3 = .ok (.bool jump.isNone) (W3.putObj (w.heap.size + 1) (.loop (rec (if jump.isNone then .ready else .done) jump))) ∧
          (W3.putObj (w.heap.size + 1) (.loop (rec (if jump.isNone then .ready else .done) jump))).heap[w.heap.size + 1]? = some (.loop (rec (if jump.isNone then .ready else .done) jump)) ∧
          (W3.putObj (w.heap.size + 1) (.loop (rec (if jump.isNone then .ready else .done) jump))).heap[w.heap.size]? = some (.deferred (some [])) ∧
          (W3.putObj (w.heap.size + 1) (.loop (rec (if jump.isNone then .ready else .done) jump))).heap[B]? = W.heap[B]? ∧
          w.heap.size + 2 ≤ (W3.putObj (w.heap.size + 1) (.loop (rec (if jump.isNone then .ready else .done) jump))).heap.size ∧
          Keeps (KB B w) W3 (W3.putObj (w.heap.size + 1) (.loop (rec (if jump.isNone then .ready else .done) jump))) := fun jump W3 hk3 => by
        have hl3 : W3.heap[w.heap.size + 1]? = _ := (hk3.block _ (by omega) (fun h => h (.inr (.inr rfl)))).trans hl2
        have hd3 : W3.heap[w.heap.size]? = _ := (hk3.block _ (by omega) (fun h => h (.inr (.inl rfl)))).trans hd2
        have hB3 : W3.heap[B]? = W.heap[B]? := (hk3.block _ (by omega) (fun h => h (.inl rfl))).trans hB2
        have hz3 : w.heap.size + 2 ≤ W3.heap.size := Nat.le_trans hz2 hk3.size
        have := run_endRound (P := P) jump hl3
        rw [hrec] at this ⊢
        refine ⟨this, World.putObj_heap_same (by omega), (World.putObj_heap_other (by omega)).trans hd3, (World.putObj_heap_other (by omega)).trans hB3, by simpa using hz3, Keeps.putObj (S := KB B w) (Keeps.refl _ _) (.inl (.inr (.inr rfl))) _⟩
      rintro e a3 W3 hp
      cases e with
      | normal =>
        obtain ⟨hk3, hi3⟩ := hp
        obtain ⟨hr, hl4, hd4, hB4, hz4, hk4⟩ := fin none W3 hk3
        exact ⟨_, _, hr, .inl ⟨rfl, ⟨hI _ _ _ hi3 hk4, hl4, hd4, hz4⟩, hB4⟩⟩
      | ret =>
        obtain ⟨hk3, hi3⟩ := hp
        obtain ⟨hr, hl4, hd4, hB4, hz4, hk4⟩ := fin (some .ret) W3 hk3
        exact ⟨_, _, hr, .inr ⟨rfl, _, ⟨rest, hxs⟩, rfl, .ret, hIx _ _ _ _ hi3 hk4, hl4, hd4, hz4⟩⟩
      | exit id =>
        obtain ⟨hk3, hi3⟩ := hp
        obtain ⟨hr, hl4, hd4, hB4, hz4, hk4⟩ := fin (some (.exit id)) W3 hk3
        exact ⟨_, _, hr, .inr ⟨rfl, _, ⟨rest, hxs⟩, rfl, .exit id, hIx _ _ _ _ hi3 hk4, hl4, hd4, hz4⟩⟩
      | goto t =>
        obtain ⟨hk3, hi3⟩ := hp
        obtain ⟨hr, hl4, hd4, hB4, hz4, hk4⟩ := fin (some (.goto t)) W3 hk3
        exact ⟨_, _, hr, .inr ⟨rfl, _, ⟨rest, hxs⟩, rfl, .goto t, hIx _ _ _ _ hi3 hk4, hl4, hd4, hz4⟩⟩
      | panic ch => exact hp.elim
      | outgrown => exact hp.elim
    · -- behind the iterator
      rintro e W2 ⟨⟨v, rfl⟩, (⟨hi, hl, hd, hz⟩ | ⟨pre, c, hi, hl, hd, hz⟩)⟩
      · refine ⟨none, _, by have := run_endLoop (P := P) hl (by rw [hrec]; simp); rw [hrec] at this; exact this, hdone _ (hI _ _ _ hi (Keeps.putObj (S := KB B w) (Keeps.refl _ _) (.inl (.inr (.inr rfl))) _)) ((World.putObj_heap_other (by omega)).trans hd) (Nat.lt_of_lt_of_le (show w.heap.size < W2.heap.size by omega) (Keeps.putObj (S := fun _ => True) (Keeps.refl _ _) (.inl trivial) _).size)⟩
      · exact ⟨some c, _, by have := run_endLoop (P := P) hl (by rw [hrec]; simp); rw [hrec] at this; exact this, hstop c pre _ (hIx c _ _ _ hi (Keeps.putObj (S := KB B w) (Keeps.refl _ _) (.inl (.inr (.inr rfl))) _)) ((World.putObj_heap_other (by omega)).trans hd)⟩

end Tl
end Go.Proofs.YthjefffefomioaaDoor
