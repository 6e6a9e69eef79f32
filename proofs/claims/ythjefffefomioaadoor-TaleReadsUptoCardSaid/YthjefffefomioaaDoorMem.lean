/- Memory words of this work: which blocks a call leaves alone (Keeps), rows of the call's own with what append makes of them, and how a block known whole reads. -/
import Derived.Below
import Derived.Deep.Draws
import Derived.OwnWalk
import Derived.Laws.OwnMore
import Derived.Laws.MakeOwn
import Derived.WalkKit
import Derived.Lib.Hide
namespace Go.Proofs.YthjefffefomioaaDoor
open Go.RowKit

/-- But for the blocks of S the world w' holds what w held. -/
structure Keeps (S : Nat → Prop) (w w' : World) : Prop where
  os : w'.os = w.os
  tape : w'.tape = w.tape
  output : w'.output = w.output
  size : w.heap.size ≤ w'.heap.size
  block : ∀ k, k < w.heap.size → ¬ S k → w'.heap[k]? = w.heap[k]?

def NoBlock : Nat → Prop := fun _ => False

theorem Keeps.refl (S : Nat → Prop) (w : World) : Keeps S w w := ⟨rfl, rfl, rfl, Nat.le_refl _, fun _ _ _ => rfl⟩

theorem Keeps.trans {S S' : Nat → Prop} {a b c : World} (h : Keeps S a b) (k : Keeps S' b c) (hs : ∀ j, j < a.heap.size → S' j → S j) : Keeps S a c :=
  ⟨k.os.trans h.os, k.tape.trans h.tape, k.output.trans h.output, Nat.le_trans h.size k.size,
    fun j hj hn => (k.block j (Nat.lt_of_lt_of_le hj h.size) (fun hh => hn (hs j hj hh))).trans (h.block j hj hn)⟩

theorem Keeps.mono {S S' : Nat → Prop} {a b : World} (h : Keeps S a b) (hs : ∀ j, j < a.heap.size → S j → S' j) : Keeps S' a b :=
  ⟨h.os, h.tape, h.output, h.size, fun j hj hn => h.block j hj (fun hh => hn (hs j hj hh))⟩

theorem Keeps.alloc {S : Nat → Prop} {a w : World} (h : Keeps S a w) (o : Obj) : Keeps S a (w.alloc o) :=
  h.trans (S' := S) ⟨rfl, rfl, rfl, by simp, fun k hk _ => Below.heap_alloc _ _ _ hk⟩ (fun _ _ h => h)

theorem Keeps.drew {S : Nat → Prop} {a w : World} (h : Keeps S a w) : Keeps S a w.drew := ⟨h.os, h.tape, h.output, h.size, h.block⟩

theorem Keeps.drewN {S : Nat → Prop} {a w : World} (h : Keeps S a w) (n : Nat) : Keeps S a (w.drewN n) := ⟨h.os, h.tape, h.output, h.size, h.block⟩

theorem Keeps.setCell {S : Nat → Prop} {a w : World} (h : Keeps S a w) {p : Addr} (hp : S p.block ∨ a.heap.size ≤ p.block) (u : Value) : Keeps S a (w.setCell p u) :=
  h.trans (S' := fun k => k = p.block) ⟨rfl, rfl, rfl, by simp [World.setCell], fun k _ hk => Below.heap_setCell _ _ _ _ hk⟩
    (fun j hj e => by subst e; rcases hp with hp | hp; exact hp; omega)

theorem Keeps.grown {S : Nat → Prop} {a w w' : World} {row : Option Nat} (h : Keeps S a w) (hg : w.grownBy w' row) (hr : ∀ k, row = some k → S k ∨ a.heap.size ≤ k) : Keeps S a w' :=
  h.trans (S' := fun k => row = some k) ⟨hg.os, hg.tape, hg.output, hg.size, fun k hk hn => hg.block k hk (fun e => hn e.symm)⟩
    (fun j hj e => by rcases hr j e with h | h; exact h; omega)

theorem Keeps.of_grown {w w' : World} {row : Option Nat} (hg : w.grownBy w' row) : Keeps (fun k => row = some k) w w' :=
  ⟨hg.os, hg.tape, hg.output, hg.size, fun k hk hn => hg.block k hk (fun e => hn e.symm)⟩

theorem Keeps.below {S : Nat → Prop} {w w' : World} {B : Nat} (h : Keeps S w w') (hB : B ≤ w.heap.size) (hs : ∀ k, S k → B ≤ k) : Below B w w' :=
  ⟨h.os, h.tape, h.output, h.size, fun k hk => h.block k (by omega) (fun hh => by have := hs k hh; omega)⟩

theorem Below.keeps {w w' : World} (h : Below w.heap.size w w') (S : Nat → Prop) : Keeps S w w' :=
  ⟨h.os, h.tape, h.output, h.size, fun k hk _ => h.block k hk⟩

theorem Keeps.cell {S : Nat → Prop} {w w' : World} (h : Keeps S w w') {b o : Nat} (hb : b < w.heap.size) (hn : ¬ S b) : w'.cell? ⟨b, o, none⟩ = w.cell? ⟨b, o, none⟩ :=
  World.cell?_of_block (h.block b hb hn)

theorem Keeps.frozen {S : Nat → Prop} {w w' : World} (h : Keeps S w w') {b o : Nat} (hb : b < w.heap.size) (hn : ¬ S b) : w'.frozen? ⟨b, o, none⟩ = w.frozen? ⟨b, o, none⟩ :=
  World.frozen?_of_block (h.block b hb hn)

/-- A block that is known whole. -/
theorem lt_of_block {w : World} {b : Nat} {o : Obj} (h : w.heap[b]? = some o) : b < w.heap.size := (Array.getElem?_eq_some_iff.1 h).1

theorem cell_of_block {w : World} {b o : Nat} {c : Array Value} {e : TypeId} {v : Value} (h : w.heap[b]? = some (.cells c e (0, 0))) (hv : c[o]? = some v) : w.cell? ⟨b, o, none⟩ = some v := by
  simp [World.cell?, h, hv]

theorem frozen_of_block {w : World} {b o : Nat} {c : Array Value} {e : TypeId} (h : w.heap[b]? = some (.cells c e (0, 0))) : w.frozen? ⟨b, o, none⟩ = false := by
  simp [World.frozen?, h]

theorem block_set {w : World} {b o : Nat} {c : Array Value} {e : TypeId} (h : w.heap[b]? = some (.cells c e (0, 0))) (v : Value) :
    (w.setCell ⟨b, o, none⟩ v).heap[b]? = some (.cells (c.setIfInBounds o v) e (0, 0)) := by
  simp [World.setCell, Array.getElem?_modify, h]

theorem block_set_ne {w : World} {b : Nat} {p : Addr} (h : b ≠ p.block) (v : Value) : (w.setCell p v).heap[b]? = w.heap[b]? := Below.heap_setCell _ _ _ _ h

theorem block_alloc_old {w : World} {b : Nat} {o o' : Obj} (h : w.heap[b]? = some o) : (w.alloc o').heap[b]? = some o := by
  rw [Below.heap_alloc _ _ _ (lt_of_block h), h]

theorem block_alloc_new (w : World) (o : Obj) : (w.alloc o).heap[w.heap.size]? = some o := by
  show (w.heap.push o)[w.heap.size]? = _
  simp

theorem blk_new {w : World} {o : Obj} {k : Nat} (h : k = w.heap.size) : (w.alloc o).heap[k]? = some o := by rw [h]; exact block_alloc_new w o
theorem blk_drew {w : World} {o : Obj} {k : Nat} (h : w.heap[k]? = some o) : w.drew.heap[k]? = some o := h
theorem blk_grown {w w' : World} {row : Option Nat} {o : Obj} {k : Nat} (hg : w.grownBy w' row) (hne : row ≠ some k) (h : w.heap[k]? = some o) : w'.heap[k]? = some o := by
  rw [hg.block k (lt_of_block h) (fun e => hne e.symm)]; exact h
theorem news1 {w : World} {q : Nat} {v : Value} {e : TypeId} (h : w.heap[q]? = some (.cells #[v] e (0, 0))) : ∀ (j : Nat) (u : Value), [v][j]? = some u → w.cell? ((⟨q, 0, none⟩ : Addr).add j) = some u := by
  intro j u hu
  match j, hu with
  | 0, hu => simp at hu; subst hu; exact cell_of_block h rfl

/-- A row of the call's own: n elements of s cells each. -/
abbrev Own (w : World) (e : TypeId) (s : Nat) (v : Value) (n : Nat) (xs : List Value) : Prop := w.ownsRow 0 e s v n xs

theorem Own.keeps {w w' : World} {S : Nat → Prop} {e : TypeId} {s : Nat} {v : Value} {n : Nat} {xs : List Value} (h : Own w e s v n xs) (k : Keeps S w w') (hn : ∀ b, v.ownBlock = some b → ¬ S b) : Own w' e s v n xs := by
  refine ⟨h.1, ?_⟩
  rcases h.2 with hn | ⟨g, cap, cur, rfl, hb, hgg, rest⟩
  · exact .inl hn
  · refine .inr ⟨g, cap, cur, rfl, hb, ?_, rest⟩
    rw [k.block g (lt_of_block hgg) (hn g rfl)]
    exact hgg

theorem Own.lt {w : World} {e : TypeId} {s : Nat} {v : Value} {n : Nat} {xs : List Value} (h : Own w e s v n xs) : ∀ b, v.ownBlock = some b → b < w.heap.size :=
  fun b hb => (World.ownsRow.lt h b hb).2

/-- An element type's row of the program's table, and its slice type. -/
structure Elem (P : Program) (t e : TypeId) (z : Value) (size bytes : Nat) : Prop where
  under : P.underlying t = some (.slice e)
  info : ∃ i, P.info? e = some i ∧ i.zero = some z ∧ i.size = size ∧ i.bytes = bytes
  cells : z.cells.size = size
  pos : 0 < size

theorem Elem.mk' {P : Program} {t e : TypeId} {z : Value} {size bytes : Nat} (h : P.underlying t = some (.slice e)) (hi : (P.info? e).map (fun i => (i.zero, i.size, i.bytes)) = some (some z, size, bytes)) (hc : z.cells.size = size) (hp : 0 < size) : Elem P t e z size bytes :=
  ⟨h, info_parts hi, hc, hp⟩

/-- What append makes: the row itself, grown in place, or a new one. -/
theorem run_app {P : Program} {t ty e : TypeId} {z : Value} {size bytes : Nat} (E : Elem P t e z size bytes) (w : World) (v : Value) (n : Nat) (xs : List Value) (hown : Own w e size v n xs)
    (a : Addr) (m c : Nat) (news : List Value) (hl : news.length = m * size) (hnews : ∀ j u, news[j]? = some u → w.cell? (a.add j) = some u) (h1 : ∀ u ∈ news, u.oneCell' = true)
    (h63 : n + m ≤ maxLen) (hbytes : (n + m) * bytes ≤ 140737488355328) :
    ∃ v' w', (Builtin.append_ #[t, t] ty #[v, .slice (some a) m c]).run P w = .ok v' w' ∧ Own w' e size v' (n + m) (xs ++ news) ∧ w.grownBy w' v.ownBlock ∧
      (∀ k, v'.ownBlock = some k → v.ownBlock = some k ∨ w.heap.size ≤ k) ∧ (0 < m → ∃ g cap, v' = .slice (some ⟨g, 0, none⟩) (n + m) cap) := by
  obtain ⟨ht, ⟨i, hi, hz, rfl, rfl⟩, hzs, hsz⟩ := E
  have hsome : ∀ (w' : World) (v' : Value), Own w' e i.size v' (n + m) (xs ++ news) → 0 < m → ∃ g cap, v' = .slice (some ⟨g, 0, none⟩) (n + m) cap := by
    intro w' v' ho hm
    rcases ho.2 with ⟨_, h⟩ | ⟨g, cap, _, h, _⟩
    · omega
    · exact ⟨g, cap, h⟩
  rcases hown.2 with ⟨rfl, hn⟩ | ⟨g, cap, cur, rfl, hbg, hg, hnc, hcm, hcs, htake⟩
  · subst hn
    have hx : xs = [] := List.eq_nil_of_length_eq_zero (by simpa using hown.1)
    subst hx
    obtain ⟨v', w', hr, ho, hgr, _⟩ := run_append_own (P := P) w w.heap.size t ty e i z i.size i.bytes ht hi hz rfl rfl hzs hsz _ 0 [] (World.ownsRow_nil w w.heap.size e i.size) a m c news hl hnews h1 h63 hbytes (Nat.le_refl _)
    refine ⟨v', w', hr, ⟨ho.1, ?_⟩, hgr, fun k hk => .inr (World.ownsRow.lt ho k hk).1, ?_⟩
    · rcases ho.2 with h | ⟨g, cap, cur, h, _, r⟩
      · exact .inl h
      · exact .inr ⟨g, cap, cur, h, Nat.zero_le _, r⟩
    · intro hm
      rcases ho.2 with ⟨_, h⟩ | ⟨g, cap, _, h, _⟩
      · omega
      · exact ⟨g, cap, h⟩
  · by_cases hroom : n + m ≤ cap
    · obtain ⟨w', hr, ho, hgr⟩ := run_append_fits (P := P) w 0 t ty e i i.size ht hi rfl g n cap xs hown a m c news hl hnews h1 hroom
      exact ⟨_, w', hr, ho, hgr, fun k hk => .inl hk, hsome _ _ ho⟩
    · have holds : ∀ j u, xs[j]? = some u → w.cell? ((⟨g, 0, none⟩ : Addr).add j) = some u := World.ownsRow.cells hown (g := g) rfl
      have hr := run_append_grow (P := P) w t ty e i z ht hi hz ⟨g, 0, none⟩ n cap xs hown.1 holds a m c news hl hnews (by omega) (by simp only [maxLen] at h63; omega) (growslice_fits (by omega) hbytes)
      have hge := grownCap_ge w (n + m) cap e
      have hcm' : grownCap w (n + m) cap e ≤ maxLen := grownCap_le_maxLen w (n + m) cap e h63
      have hlen : (xs ++ news).length = (n + m) * i.size := by rw [List.length_append, hown.1, hl, Nat.add_mul]
      have ho : Own (w.drew.alloc (.cells (xs.toArray ++ news.toArray ++ Builtin.zeroCells z.cells (grownCap w (n + m) cap e - (n + m))) e)) e i.size (.slice (some ⟨w.heap.size, 0, none⟩) (n + m) (grownCap w (n + m) cap e)) (n + m) (xs ++ news) := by
        refine ⟨hlen, .inr ⟨w.heap.size, _, _, rfl, Nat.zero_le _, heap_alloc_new w.drew _, hge, hcm', ?_, ?_⟩⟩
        · simp only [Array.size_append, List.size_toArray, size_zeroCells, hzs, hown.1, hl, ← Nat.add_mul]
          congr 1
          omega
        · simp only [Array.toList_append, List.append_assoc]
          rw [← List.append_assoc, ← hlen]
          exact List.take_left
      exact ⟨_, _, hr, ho, ⟨rfl, rfl, rfl, by simp, fun k hk _ => Below.heap_alloc w.drew _ k hk⟩, fun k hk => .inr (by simp [Value.ownBlock] at hk; omega), fun _ => ⟨_, _, rfl⟩⟩

theorem wp_app {P : Program} {t e : TypeId} {z : Value} {size bytes : Nat} (E : Elem P t e z size bytes) (w : World) {o : Oper} {a : Act} {K : Act → World → Prop} {Q : Exit → Act → World → Prop} (s x : Operand)
    (ho : o.op = .call { callee := .builtin .append, args := #[s, x], argTypes := #[t, t] })
    (v : Value) (n : Nat) (xs : List Value) (hs : a.eval s = v) (hown : Own w e size v n xs)
    (ad : Addr) (m c : Nat) (news : List Value) (hx : a.eval x = .slice (some ad) m c) (hl : news.length = m * size) (hnews : ∀ j u, news[j]? = some u → w.cell? (ad.add j) = some u) (h1 : ∀ u ∈ news, u.oneCell' = true)
    (h63 : n + m ≤ maxLen) (hbytes : (n + m) * bytes ≤ 140737488355328)
    (h : ∀ v' w', Own w' e size v' (n + m) (xs ++ news) → w.grownBy w' v.ownBlock → (∀ k, v'.ownBlock = some k → v.ownBlock = some k ∨ w.heap.size ≤ k) → (0 < m → ∃ g cap, v' = .slice (some ⟨g, 0, none⟩) (n + m) cap) → K (a.put o.dst v') w') : o.wp P a w K Q := by
  obtain ⟨v', w', hr, h2, h3, h4, h5⟩ := run_app (P := P) (ty := o.type) E w v n xs hown ad m c news hl hnews h1 h63 hbytes
  unfold Oper.wp execOp
  simp only [ho, resolve, invoke, builtin, Sem.run_bind, Sem.run_pure, Result.andThen_ok, List.map_toArray, List.map_cons, List.map_nil, hs, hx, hr]
  exact h v' w' h2 h3 h4 h5

/-- append(xs, x): one element, of 'size' cells, just laid in a block of its own. -/
theorem wpList_app1 {P : Program} {t e : TypeId} {z : Value} {size bytes : Nat} (E : Elem P t e z size bytes) (w : World) {ops : Array Oper} {rest : List Oper} {o : Oper} {a : Act} {Q : Exit → Act → World → Prop} (hgd : o.guard = none) (s x : Operand)
    (ho : o.op = .call { callee := .builtin .append, args := #[s, x], argTypes := #[t, t] })
    (v : Value) (n : Nat) (xs : List Value) (hs : a.eval s = v) (hown : Own w e size v n xs) (news : List Value) (e' : TypeId) (q : Nat)
    (hx : a.eval x = .slice (some ⟨q, 0, none⟩) 1 1) (hq : q = w.heap.size) (hl : news.length = size) (h1 : ∀ u ∈ news, u.oneCell' = true)
    (hn : n < 1000000) (hb : bytes ≤ 1000)
    (h : ∀ g cap w', Own w' e size (.slice (some ⟨g, 0, none⟩) (n + 1) cap) (n + 1) (xs ++ news) → Keeps (fun k => v.ownBlock = some k) w w' → (v.ownBlock = some g ∨ w.heap.size ≤ g) → wpList P ops Q rest (a.put o.dst (.slice (some ⟨g, 0, none⟩) (n + 1) cap)) w') :
    wpList P ops Q (o :: rest) a (w.alloc (.cells news.toArray e' (0, 0))) := by
  subst hq
  refine wpList_plain hgd fun K hK => ?_
  refine wp_app E _ s x ho v n xs hs (World.ownsRow.alloc hown _) ⟨w.heap.size, 0, none⟩ 1 1 news hx (by simpa using hl) ?_ h1 (by simp only [maxLen]; omega) ?_ ?_
  · intro j u hu
    have hj : (⟨w.heap.size, 0, none⟩ : Addr).add j = ⟨w.heap.size, j, none⟩ := by unfold Addr.add; split <;> simp_all
    rw [hj]
    exact cell_of_block (block_alloc_new w _) (by simpa using hu)
  · calc (n + 1) * bytes ≤ 1000000 * 1000 := Nat.mul_le_mul (by omega) hb
      _ ≤ _ := by decide
  · intro v' w' h2 h3 h4 h5
    obtain ⟨g, cap, rfl⟩ := h5 (by decide)
    refine hK _ _ (h g cap w' h2 ?_ ?_)
    · exact ((Keeps.refl _ w).alloc _).grown h3 (fun k hk => .inl hk)
    · rcases h4 g rfl with h | h
      · exact .inl h
      · exact .inr (by simp at h; omega)

/-- make([]T, n). -/
theorem wpList_make {P : Program} {t e : TypeId} {z : Value} {size bytes : Nat} (E : Elem P t e z size bytes) (w : World) {ops : Array Oper} {rest : List Oper} {o : Oper} {a : Act} {Q : Exit → Act → World → Prop}
    (hg : o.guard = none) (l c : Operand) (hop : o.op = Op.makeSlice t l c) (kl kc : IntKind) (n : Nat) (hl : a.eval l = .int kl (n : Int)) (hc : a.eval c = .int kc (n : Int)) (hn : n ≤ 1000000) (hb : bytes ≤ 1000)
    (hK : ∀ w', Own w' e size (.slice (some ⟨w.heap.size, 0, none⟩) n n) n (madeCells z.cells (n * size)).toList → w.heap.size < w'.heap.size → Keeps NoBlock w w' → wpList P ops Q rest (a.put o.dst (.slice (some ⟨w.heap.size, 0, none⟩) n n)) w') :
    wpList P ops Q (o :: rest) a w := by
  obtain ⟨ht, ⟨i, hi, hz, rfl, rfl⟩, hzs, hsz⟩ := E
  refine wpList_make_full w hg l c t hop 0 e i z i.size ht hi hz rfl kl kc _ _ n hl hc rfl rfl ?_ (by simp only [maxLen]; omega) (Nat.zero_le _) fun w' ho hgr => ?_
  · calc i.bytes * n ≤ 1000 * 1000000 := Nat.mul_le_mul hb hn
      _ ≤ _ := by decide
  · exact hK w' ho (Own.lt ho _ rfl) ((Keeps.of_grown hgr).mono (fun j _ h => by cases h))

/-- make([]T, n), as an equation. -/
theorem run_mk {P : Program} {t e : TypeId} {z : Value} {size bytes : Nat} (E : Elem P t e z size bytes) (n : Nat) (hn : n ≤ 1000000) (hb : bytes ≤ 1000) (w : World) :
    (Instr.makeSlice t (.int .i64 (n : Int)) (.int .i64 (n : Int))).run P w = .ok (.slice (some ⟨w.heap.size, 0, none⟩) n n) (w.alloc (.cells (madeCells z.cells (n * size)) e)) := by
  obtain ⟨ht, ⟨i, hi, hz, rfl, rfl⟩, hzs, hsz⟩ := E
  have hb' : (i.bytes : Int) * (n : Int) ≤ 281474976710656 := by
    have h : i.bytes * n ≤ 1000 * 1000000 := Nat.mul_le_mul hb hn
    have h2 : ((i.bytes * n : Nat) : Int) ≤ 281474976710656 := by omega
    rwa [Int.natCast_mul] at h2
  have hr := run_make (P := P) w t e i z ht hi hz .i64 .i64 n n (by omega) (Int.le_refl _) hb' (by omega)
  simpa only [Int.toNat_natCast] using hr

theorem own_made {w : World} {e : TypeId} (z : Value) (n : Nat) (hn : n ≤ 1000000) (hz : z.cells = #[z]) : Own (w.alloc (.cells (madeCells z.cells n) e)) e 1 (.slice (some ⟨w.heap.size, 0, none⟩) n n) n (List.replicate n z) := by
  have h := World.ownsRow_lit (base := 0) (e := e) (size := 1) w (madeCells z.cells n) n (Nat.zero_le _) (by simp only [maxLen]; omega) (by rw [size_madeCells, Nat.mul_one])
  rw [hz, toList_madeCells_one] at h
  rw [hz]
  exact h

/-! Lists of things of s cells each. -/
theorem flat_len {α : Type} (f : α → List Value) (s : Nat) (hf : ∀ x, (f x).length = s) (l : List α) : (l.flatMap f).length = l.length * s := by
  induction l with
  | nil => simp
  | cons a l ih => simp only [List.flatMap_cons, List.length_append, hf, ih, List.length_cons, Nat.add_mul]; omega

theorem flat_get {α : Type} (f : α → List Value) (s : Nat) (hf : ∀ x, (f x).length = s) : ∀ (l : List α) (k j : Nat) (x : α), j < s → l[k]? = some x → (l.flatMap f)[k * s + j]? = (f x)[j]?
  | [], k, j, x, _, h => by simp at h
  | a :: l, 0, j, x, hj, h => by
    simp only [List.getElem?_cons_zero, Option.some.injEq] at h
    subst h
    rw [List.flatMap_cons, Nat.zero_mul, Nat.zero_add, List.getElem?_append_left (by rw [hf]; exact hj)]
  | a :: l, k + 1, j, x, hj, h => by
    have hs := hf a
    rw [List.flatMap_cons, List.getElem?_append_right (by rw [hf, Nat.add_mul]; omega), hf, show (k + 1) * s + j - s = k * s + j by rw [Nat.add_mul]; omega]
    exact flat_get f s hf l k j x hj (by simpa using h)

theorem flat_set {α : Type} (f : α → List Value) (s : Nat) (hf : ∀ x, (f x).length = s) (x x' : α) (u : Value) (j : Nat) (hj : j < s) (hx : f x' = (f x).set j u) :
    ∀ (l : List α) (k : Nat), l[k]? = some x → (l.flatMap f).set (k * s + j) u = (l.set k x').flatMap f
  | [], k, h => by simp at h
  | a :: l, 0, h => by
    simp only [List.getElem?_cons_zero, Option.some.injEq] at h
    subst h
    rw [List.flatMap_cons, Nat.zero_mul, Nat.zero_add, List.set_append_left _ _ (by rw [hf]; exact hj), List.set_cons_zero, List.flatMap_cons, hx]
  | a :: l, k + 1, h => by
    have hs := hf a
    rw [List.flatMap_cons, List.set_append_right _ _ (by rw [hf, Nat.add_mul]; omega), hf, show (k + 1) * s + j - s = k * s + j by rw [Nat.add_mul]; omega, List.set_cons_succ, List.flatMap_cons, flat_set f s hf x x' u j hj hx l k (by simpa using h)]

/-- A slice that reads as these numbers. -/
def ReadsI (k : IntKind) (w : World) (v : Value) (xs : List Int) : Prop :=
  ∃ (A : Option Addr) (b off cap : Nat), v = .slice A xs.length cap ∧ (0 < xs.length → A = some ⟨b, off, none⟩ ∧ b < w.heap.size) ∧ ∀ (j : Nat) (x : Int), xs[j]? = some x → w.cell? ⟨b, off + j, none⟩ = some (.int k x)

theorem Own.readsI {w : World} {e : TypeId} {k : IntKind} {v : Value} {xs : List Int} (h : Own w e 1 v xs.length (xs.map (Value.int k))) : ReadsI k w v xs := by
  rcases h.2 with ⟨h1, h2⟩ | ⟨g, cap, cur, rfl, _, hg, _⟩
  · exact ⟨none, 0, 0, 0, by rw [h1, h2], fun h => by omega, fun j x hx => by rw [List.eq_nil_of_length_eq_zero h2] at hx; simp at hx⟩
  · refine ⟨_, g, 0, cap, rfl, fun _ => ⟨rfl, lt_of_block hg⟩, fun j x hx => ?_⟩
    have hj : j < xs.length := (List.getElem?_eq_some_iff.1 hx).1
    rw [Nat.zero_add, World.ownsRow.cellAt h j (by omega)]
    simp [hx]

theorem ReadsI.keeps {k : IntKind} {w w' : World} {v : Value} {xs : List Int} {S : Nat → Prop} (h : ReadsI k w v xs) (kp : Keeps S w w') (hn : ∀ b, v.ownBlock = some b → ¬ S b) : ReadsI k w' v xs := by
  obtain ⟨A, b, off, cap, rfl, h1, h2⟩ := h
  refine ⟨A, b, off, cap, rfl, fun hp => ⟨(h1 hp).1, Nat.lt_of_lt_of_le (h1 hp).2 kp.size⟩, fun j x hx => ?_⟩
  have hj : j < xs.length := (List.getElem?_eq_some_iff.1 hx).1
  obtain ⟨rfl, hb⟩ := h1 (by omega)
  rw [kp.cell hb (hn b rfl)]
  exact h2 j x hx

theorem get_of_getD {α : Type} {l : List α} {k : Nat} {x z : α} (hk : k < l.length) (h : l.getD k z = x) : l[k]? = some x := by
  rw [List.getD_eq_getElem?_getD, List.getElem?_eq_getElem hk] at h
  rw [List.getElem?_eq_getElem hk]
  simpa using h

end Go.Proofs.YthjefffefomioaaDoor
