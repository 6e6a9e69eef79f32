/- append with whatever slice behind it, nil among them; a row of the call's own that grows. -/
import Derived.Test.YthjefffefomioaaDoorProg
import Derived.Test.YthjefffefomioaaDoorLst
import Derived.Lib.AppendZerosOnto
import Derived.BigFrame
namespace Go.Proofs.YthjefffefomioaaDoor
open Go.RowKit

theorem run_appX {P : Program} {t ty e : TypeId} {z : Value} {size bytes : Nat} (E : Elem P t e z size bytes) (w : World) (v : Value) (n : Nat) (xs : List Value) (hown : Own w e size v n xs)
    (A : Option Addr) (b off m c : Nat) (news : List Value) (hA : 0 < m → A = some ⟨b, off, none⟩) (hl : news.length = m * size) (hnews : ∀ j u, news[j]? = some u → w.cell? ⟨b, off + j, none⟩ = some u) (h1 : ∀ u ∈ news, u.oneCell' = true)
    (h63 : n + m ≤ maxLen) (hbytes : (n + m) * bytes ≤ 140737488355328) :
    ∃ v' w', (Builtin.append_ #[t, t] ty #[v, .slice A m c]).run P w = .ok v' w' ∧ Own w' e size v' (n + m) (xs ++ news) ∧ w.grownBy w' v.ownBlock ∧
      (∀ k, v'.ownBlock = some k → v.ownBlock = some k ∨ w.heap.size ≤ k) ∧ (0 < m → ∃ g cap, v' = .slice (some ⟨g, 0, none⟩) (n + m) cap) := by
  by_cases hm : m = 0
  · subst hm
    have hn : news = [] := List.eq_nil_of_length_eq_zero (by simpa using hl)
    subst hn
    have E' := E
    obtain ⟨ht, ⟨i, hi, hz, rfl, rfl⟩, _, _⟩ := E'
    refine ⟨v, w, ?_, by simpa using hown, World.grownBy.refl _ _, fun k h => .inl h, fun h => by omega⟩
    rcases Own.form hown with ⟨rfl, rfl⟩ | ⟨g, cap, rfl, _, hc, _⟩
    · cases A <;> simp [Builtin.append_, run_underlying ht, sizeOf, typeInfo, hi, loadCells, loadCellsFrom, Builtin.lenOf, Builtin.firstCells]
    · cases A <;> simp [Builtin.append_, run_underlying ht, sizeOf, typeInfo, hi, storeCells, loadCells, loadCellsFrom, Builtin.lenOf, Builtin.firstCells, hc]
  · obtain rfl := hA (by omega)
    exact run_app E w v n xs hown ⟨b, off, none⟩ m c news hl (fun j u hj => by rw [Addr.add_lit]; exact hnews j u hj) h1 h63 hbytes

theorem wp_appX {P : Program} {t e : TypeId} {z : Value} {size bytes : Nat} (E : Elem P t e z size bytes) (w : World) {o : Oper} {a : Act} {K : Act → World → Prop} {Q : Exit → Act → World → Prop} (s x : Operand)
    (ho : o.op = .call { callee := .builtin .append, args := #[s, x], argTypes := #[t, t] })
    (v : Value) (n : Nat) (xs : List Value) (hs : a.eval s = v) (hown : Own w e size v n xs)
    (A : Option Addr) (b off m c : Nat) (news : List Value) (hx : a.eval x = .slice A m c) (hA : 0 < m → A = some ⟨b, off, none⟩) (hl : news.length = m * size) (hnews : ∀ j u, news[j]? = some u → w.cell? ⟨b, off + j, none⟩ = some u) (h1 : ∀ u ∈ news, u.oneCell' = true)
    (h63 : n + m ≤ maxLen) (hbytes : (n + m) * bytes ≤ 140737488355328)
    (h : ∀ v' w', Own w' e size v' (n + m) (xs ++ news) → w.grownBy w' v.ownBlock → (∀ k, v'.ownBlock = some k → v.ownBlock = some k ∨ w.heap.size ≤ k) → (0 < m → ∃ g cap, v' = .slice (some ⟨g, 0, none⟩) (n + m) cap) → K (a.put o.dst v') w') : o.wp P a w K Q := by
  obtain ⟨v', w', hr, h2, h3, h4, h5⟩ := run_appX (P := P) (ty := o.type) E w v n xs hown A b off m c news hA hl hnews h1 h63 hbytes
  unfold Oper.wp execOp
  simp only [ho, resolve, invoke, builtin, Sem.run_bind, Sem.run_pure, Result.andThen_ok, List.map_toArray, List.map_cons, List.map_nil, hs, hx, hr]
  exact h v' w' h2 h3 h4 h5

/-- append(xs, ys..), whatever slice ys is, in a plain region. -/
theorem wpList_appX {P : Program} {t e : TypeId} {z : Value} {size bytes : Nat} (E : Elem P t e z size bytes) (w : World) {ops : Array Oper} {rest : List Oper} {o : Oper} {a : Act} {Q : Exit → Act → World → Prop} (hgd : o.guard = none) (s x : Operand)
    (ho : o.op = .call { callee := .builtin .append, args := #[s, x], argTypes := #[t, t] })
    (v : Value) (n : Nat) (xs : List Value) (hs : a.eval s = v) (hown : Own w e size v n xs)
    (A : Option Addr) (b off m c : Nat) (news : List Value) (hx : a.eval x = .slice A m c) (hA : 0 < m → A = some ⟨b, off, none⟩) (hl : news.length = m * size) (hnews : ∀ j u, news[j]? = some u → w.cell? ⟨b, off + j, none⟩ = some u) (h1 : ∀ u ∈ news, u.oneCell' = true)
    (h63 : n + m ≤ maxLen) (hbytes : (n + m) * bytes ≤ 140737488355328)
    (h : ∀ v' w', Own w' e size v' (n + m) (xs ++ news) → w.grownBy w' v.ownBlock → (∀ k, v'.ownBlock = some k → v.ownBlock = some k ∨ w.heap.size ≤ k) → (0 < m → ∃ g cap, v' = .slice (some ⟨g, 0, none⟩) (n + m) cap) → wpList P ops Q rest (a.put o.dst v') w') :
    wpList P ops Q (o :: rest) a w := by
  refine wpList_plain hgd fun K hK => ?_
  exact wp_appX E w s x ho v n xs hs hown A b off m c news hx hA hl hnews h1 h63 hbytes (fun v' w' a b c d => hK _ _ (h v' w' a b c d))

/-- The same at a guarded operation that is carried out. -/
theorem wpList_appG {P : Program} {t e : TypeId} {z : Value} {size bytes : Nat} (E : Elem P t e z size bytes) (w : World) {ops : Array Oper} {rest : List Oper} {o : Oper} {a : Act} {Q : Exit → Act → World → Prop} (s x : Operand)
    (ho : o.op = .call { callee := .builtin .append, args := #[s, x], argTypes := #[t, t] })
    (v : Value) (n : Nat) (xs : List Value) (hs : a.eval s = v) (hown : Own w e size v n xs)
    (A : Option Addr) (b off m c : Nat) (news : List Value) (hx : a.eval x = .slice A m c) (hA : 0 < m → A = some ⟨b, off, none⟩) (hl : news.length = m * size) (hnews : ∀ j u, news[j]? = some u → w.cell? ⟨b, off + j, none⟩ = some u) (h1 : ∀ u ∈ news, u.oneCell' = true)
    (hw : Region.wanted o (yielded ops a.tmps) = true) (h63 : n + m ≤ maxLen) (hbytes : (n + m) * bytes ≤ 140737488355328)
    (h : ∀ v' w', Own w' e size v' (n + m) (xs ++ news) → w.grownBy w' v.ownBlock → (∀ k, v'.ownBlock = some k → v.ownBlock = some k ∨ w.heap.size ≤ k) → (0 < m → ∃ g cap, v' = .slice (some ⟨g, 0, none⟩) (n + m) cap) → wpList P ops Q rest (a.put o.dst v') w') :
    wpList P ops Q (o :: rest) a w := by
  refine BigFrame.wpList_want hw fun K hK => ?_
  exact wp_appX E w s x ho v n xs hs hown A b off m c news hx hA hl hnews h1 h63 hbytes (fun v' w' a b c d => hK _ _ (h v' w' a b c d))

theorem step_appX {P : Program} {t e : TypeId} {z : Value} {size bytes : Nat} (E : Elem P t e z size bytes) {ops : Array Oper} {o : Oper} {a : Act} {w : World} {K : Act → World → Prop} {Q : Exit → Act → World → Prop} {F : Prop}
    (hg : o.guard = none) (s x : Operand) (hop : o.op = Op.call { callee := Callee.builtin Builtin.append, args := #[s, x], argTypes := #[t, t] })
    (v : Value) (n : Nat) (xs : List Value) (hs : a.eval s = v) (hown : Own w e size v n xs)
    (A : Option Addr) (b off m c : Nat) (news : List Value) (hx : a.eval x = .slice A m c) (hA : 0 < m → A = some ⟨b, off, none⟩) (hl : news.length = m * size) (hnews : ∀ j u, news[j]? = some u → w.cell? ⟨b, off + j, none⟩ = some u) (h1 : ∀ u ∈ news, u.oneCell' = true)
    (h63 : n + m ≤ maxLen) (hbytes : (n + m) * bytes ≤ 140737488355328)
    (h : ∀ v' w', Own w' e size v' (n + m) (xs ++ news) → w.grownBy w' v.ownBlock → (∀ k, v'.ownBlock = some k → v.ownBlock = some k ∨ w.heap.size ≤ k) → (0 < m → ∃ g cap, v' = .slice (some ⟨g, 0, none⟩) (n + m) cap) → K (a.put o.dst v') w') :
    if Region.wanted o (yielded ops a.tmps) = true then Oper.wp P o a w K Q else F := by
  have hw : Region.wanted o (yielded ops a.tmps) = true := by simp [Region.wanted, hg]
  rw [if_pos hw]
  exact wp_appX E w s x hop v n xs hs hown A b off m c news hx hA hl hnews h1 h63 hbytes h

/-- The same at a guarded operation that runs. -/
theorem step_appG {P : Program} {t e : TypeId} {z : Value} {size bytes : Nat} (E : Elem P t e z size bytes) {ops : Array Oper} {o : Oper} {a : Act} {w : World} {K : Act → World → Prop} {Q : Exit → Act → World → Prop} {F : Prop}
    (hw : Region.wanted o (yielded ops a.tmps) = true) (s x : Operand) (hop : o.op = Op.call { callee := Callee.builtin Builtin.append, args := #[s, x], argTypes := #[t, t] })
    (v : Value) (n : Nat) (xs : List Value) (hs : a.eval s = v) (hown : Own w e size v n xs)
    (A : Option Addr) (b off m c : Nat) (news : List Value) (hx : a.eval x = .slice A m c) (hA : 0 < m → A = some ⟨b, off, none⟩) (hl : news.length = m * size) (hnews : ∀ j u, news[j]? = some u → w.cell? ⟨b, off + j, none⟩ = some u) (h1 : ∀ u ∈ news, u.oneCell' = true)
    (h63 : n + m ≤ maxLen) (hbytes : (n + m) * bytes ≤ 140737488355328)
    (h : ∀ v' w', Own w' e size v' (n + m) (xs ++ news) → w.grownBy w' v.ownBlock → (∀ k, v'.ownBlock = some k → v.ownBlock = some k ∨ w.heap.size ≤ k) → (0 < m → ∃ g cap, v' = .slice (some ⟨g, 0, none⟩) (n + m) cap) → K (a.put o.dst v') w') :
    if Region.wanted o (yielded ops a.tmps) = true then Oper.wp P o a w K Q else F := by
  rw [if_pos hw]
  exact wp_appX E w s x hop v n xs hs hown A b off m c news hx hA hl hnews h1 h63 hbytes h

/-- A row of the call's own, which began at world w. -/
structure Mine (w wr : World) (e : TypeId) (s : Nat) (v : Value) (n : Nat) (xs : List Value) : Prop where
  own : Own wr e s v n xs
  fresh : ∀ k, v.ownBlock = some k → w.heap.size ≤ k
  kp : Keeps NoBlock w wr

theorem Mine.nil (w : World) (e : TypeId) (s : Nat) : Mine w w e s (.slice none 0 0) 0 [] := ⟨World.ownsRow_nil _ _ _ _, fun k hk => by simp [Value.ownBlock] at hk, Keeps.refl _ _⟩

theorem Mine.keeps {w wr w' : World} {e : TypeId} {s : Nat} {v : Value} {n : Nat} {xs : List Value} (h : Mine w wr e s v n xs) (k : Keeps NoBlock wr w') : Mine w w' e s v n xs :=
  ⟨h.own.keeps k (fun _ _ h => h), h.fresh, h.kp.trans k (fun _ _ h => h)⟩

/-- The row was made at w0, a world that came later. -/
theorem Mine.back {w w0 wr : World} {e : TypeId} {s : Nat} {v : Value} {n : Nat} {xs : List Value} (h : Mine w0 wr e s v n xs) (k : Keeps NoBlock w w0) : Mine w wr e s v n xs :=
  ⟨h.own, fun b hb => Nat.le_trans k.size (h.fresh b hb), k.trans h.kp (fun _ _ h => h)⟩

theorem Mine.lt {w wr : World} {e : TypeId} {s : Nat} {v : Value} {n : Nat} {xs : List Value} (h : Mine w wr e s v n xs) : ∀ b, v.ownBlock = some b → b < wr.heap.size := h.own.lt

theorem Mine.grow {w wr W w' : World} {e : TypeId} {s : Nat} {v v' : Value} {n n' N : Nat} {xs xs' : List Value} (h : Mine w wr e s v n xs) (kW : Keeps NoBlock wr W) (ho : Own w' e s v' n' xs') (hg : World.grownBy W w' v.ownBlock)
    (hf : ∀ b, v'.ownBlock = some b → v.ownBlock = some b ∨ N ≤ b) (hN : wr.heap.size ≤ N) : Mine w w' e s v' n' xs' :=
  ⟨ho, fun k hk => by
    rcases hf k hk with h1 | h1
    · exact h.fresh k h1
    · have := h.kp.size; omega, (h.kp.trans kW (fun _ _ h => h)).grown hg (fun k hk => .inr (h.fresh k hk))⟩

/-- What such a row leaves of any other row that lies elsewhere. -/
theorem Mine.keepsOld {w wr : World} {e : TypeId} {s : Nat} {v : Value} {n : Nat} {xs : List Value} (h : Mine w wr e s v n xs) : Keeps NoBlock w wr := h.kp

theorem Rd.flat {α : Type} {f : α → List Value} {s : Nat} (hs : 0 < s) (hf : ∀ x, (f x).length = s) {w : World} {b off : Nat} {xs : List α}
    (hc : ∀ (j : Nat) (x : α) (i : Nat) (u : Value), xs[j]? = some x → (f x)[i]? = some u → w.cell? ⟨b, off + j * s + i, none⟩ = some u) :
    ∀ j u, (xs.flatMap f)[j]? = some u → w.cell? ⟨b, off + j, none⟩ = some u := by
  intro j u hj
  have hl : j < xs.length * s := by have := (List.getElem?_eq_some_iff.1 hj).1; rwa [flat_len f s hf] at this
  have hk : j / s < xs.length := by rw [Nat.div_lt_iff_lt_mul hs]; exact hl
  have hm : j % s < s := Nat.mod_lt _ hs
  have hj' : j / s * s + j % s = j := by have := Nat.div_add_mod j s; rw [Nat.mul_comm] at this; exact this
  have hx := List.getElem?_eq_getElem hk
  have hg := flat_get f s hf xs (j / s) (j % s) _ hm hx
  rw [hj', hj] at hg
  have := hc _ _ _ _ hx hg.symm
  rw [← hj', ← Nat.add_assoc]
  exact this

theorem Rd.isSlice {α : Type} {f : α → List Value} {s : Nat} {w : World} {v : Value} {xs : List α} (h : Rd f s w v xs) : ∃ A cap, v = .slice A xs.length cap := by
  obtain ⟨A, b, off, cap, rfl, _⟩ := h
  exact ⟨A, cap, rfl⟩

/-- A part of what a slice reads as. -/
theorem Rd.part {α : Type} {f : α → List Value} {s : Nat} {w : World} {A : Option Addr} {b off : Nat} {xs : List α} (hA : 0 < xs.length → A = some ⟨b, off, none⟩ ∧ b < w.heap.size)
    (hc : ∀ (j : Nat) (x : α) (i : Nat) (u : Value), xs[j]? = some x → (f x)[i]? = some u → w.cell? ⟨b, off + j * s + i, none⟩ = some u) (A' : Option Addr) (i m c' : Nat) (hi : i + m ≤ xs.length) (hA' : 0 < m → A' = some ⟨b, off + i * s, none⟩) :
    Rd f s w (.slice A' m c') ((xs.drop i).take m) := by
  have hl : ((xs.drop i).take m).length = m := by rw [List.length_take, List.length_drop]; omega
  refine ⟨A', b, off + i * s, c', by rw [hl], fun h => ?_, fun j x q u hx hu => ?_⟩
  · rw [hl] at h
    exact ⟨hA' h, (hA (by omega)).2⟩
  · rw [List.getElem?_take] at hx
    split at hx
    · rw [List.getElem?_drop] at hx
      have := hc _ _ _ _ hx hu
      rw [Nat.add_mul] at this
      rw [show off + i * s + j * s + q = off + (i * s + j * s) + q by omega]
      exact this
    · cases hx

theorem filterMap_take {α β : Type} (f : α → Option β) (xs : List α) (k : Nat) (x : α) (hx : xs[k]? = some x) : (xs.take (k + 1)).filterMap f = (xs.take k).filterMap f ++ (f x).toList := by
  have hk := (List.getElem?_eq_some_iff.1 hx).1
  rw [List.take_succ_eq_append_getElem hk, List.filterMap_append]
  congr 1
  have : xs[k] = x := (List.getElem?_eq_some_iff.1 hx).2
  rw [this]
  cases h : f x <;> simp [h]

theorem filterMap_yes {α β : Type} (f : α → Option β) (xs : List α) (k : Nat) (x : α) (y : β) (hx : xs[k]? = some x) (h : f x = some y) : (xs.take (k + 1)).filterMap f = (xs.take k).filterMap f ++ [y] := by
  rw [filterMap_take f xs k x hx, h]; rfl
theorem filterMap_no {α β : Type} (f : α → Option β) (xs : List α) (k : Nat) (x : α) (hx : xs[k]? = some x) (h : f x = none) : (xs.take (k + 1)).filterMap f = (xs.take k).filterMap f := by
  rw [filterMap_take f xs k x hx, h]; simp

/-- append([]T(nil), make([]T, n)...)[:0]: room for n. -/
theorem run_grown0 {P : Program} {t tn e : TypeId} {z : Value} {size bytes : Nat} (E : Elem P t e z size bytes) (htn : P.underlying tn = some (.int .i64)) (n : Nat) (hn : 0 < n) (hb : n * bytes ≤ 140737488355328) (h63 : n ≤ 1000000000000000) (w : World) :
    ∃ g cap w', (∀ ty, (Builtin.append_ #[t, tn] ty #[.slice none 0 0, .int .i64 n]).run P w = .ok (.slice (some ⟨g, 0, none⟩) n cap) w') ∧ n ≤ cap ∧ cap ≤ maxLen ∧ Mine w w' e size (.slice (some ⟨g, 0, none⟩) 0 cap) 0 [] := by
  obtain ⟨ht, ⟨i, hi, hz, rfl, rfl⟩, hzs, hsz⟩ := E
  have hr := fun ty => Lib.run_append_grow_zeros w t tn ty e i z .i64 .i64 ht htn hi hz none 0 0 [] (run_firstCells_none w.drew i.size 0 0 0) n hn hsz (by omega) (by omega) (by omega) (growslice_fits (by omega) (by simpa using hb))
  simp only [Nat.zero_add] at hr
  have hge := grownCap_ge w n 0 e
  have hcm := grownCap_le_maxLen w n 0 e (by simp only [maxLen]; omega)
  refine ⟨_, _, _, hr, hge, hcm, ⟨by simp, .inr ⟨w.heap.size, _, _, rfl, Nat.zero_le _, heap_alloc_new w.drew _, Nat.zero_le _, hcm, ?_, ?_⟩⟩, fun k hk => ?_, (Keeps.refl _ w).drew.alloc _⟩
  · simp only [Array.size_append, List.size_toArray, List.length_nil, size_zeroCells, hzs, Nat.zero_add, ← Nat.add_mul]
    congr 1
    omega
  · simp
  · simp only [Value.ownBlock, Option.some.injEq] at hk; omega

theorem Elem.elem {P : Program} {t e : TypeId} {z : Value} {size bytes : Nat} (E : Elem P t e z size bytes) : P.underlying t = some (.slice (P.elem t)) ∧ ∀ w, (sizeOf (P.elem t)).run P w = .ok size w := by
  obtain ⟨ht, ⟨i, hi, hz, rfl, rfl⟩, _, _⟩ := E
  have he : P.elem t = e := by simp [Program.elem, ht]
  rw [he]
  exact ⟨ht, fun w => by simp [sizeOf, typeInfo, hi]⟩

/-- xs[:l] -/
theorem run_slice_to {P : Program} {t e : TypeId} {z : Value} {size bytes : Nat} (E : Elem P t e z size bytes) (A : Option Addr) (n c l : Nat) (hl : l ≤ c) (w : World) :
    (Instr.slice t (.slice A n c) none (some (.int .i64 (l : Int))) none).run P w = .ok (.slice A l c) w := by
  obtain ⟨ht, hs⟩ := E.elem
  rw [run_slice_h w t A n c ht .i64 l (by omega) (by omega), hs]
  have ha : A.map (fun a => a.add 0) = A := by cases A <;> simp [Addr.add]
  simp [sliced, Result.andThen, ha]

/-- xs[l:] -/
theorem run_slice_from {P : Program} {t e : TypeId} {z : Value} {size bytes : Nat} (E : Elem P t e z size bytes) (A : Option Addr) (n c l b off : Nat) (hl : l ≤ n) (hc : n ≤ c) (hA : 0 < n → A = some ⟨b, off, none⟩) :
    ∃ A2 : Option Addr, (∀ w, (Instr.slice t (.slice A n c) (some (.int .i64 (l : Int))) none none).run P w = .ok (.slice A2 (n - l) (c - l)) w) ∧ (0 < n - l → A2 = some ⟨b, off + l * size, none⟩) := by
  obtain ⟨ht, hs⟩ := E.elem
  refine ⟨if c = l then A else A.map (fun a => a.add (l * size)), fun w => ?_, fun h0 => ?_⟩
  · rw [run_slice_l w t A n c ht .i64 l (by omega) (by omega), hs]
    simp [sliced, Result.andThen]
  · rw [if_neg (by omega), hA (by omega)]
    simp [Addr.add_lit]
end Go.Proofs.YthjefffefomioaaDoor
