/- DequePlays: a row, by whatever comes and goes. -/
import Derived.Test.YtmpingalekdlnaaDqF
import Derived.Test.YtmpingalekdlnaaOpens3
namespace Go.Proofs.Ytmpingalekdlnaa
open Go.RowKit Go.ChangeShapes Go.WideShapes
namespace Dq

structure Act where
  what : Int
  n : Int

def encA (a : Act) : List Value := [.int .i64 a.what, .int .i64 a.n]
theorem encA_len (a : Act) : (encA a).length = 2 := rfl

section
variable {H : Type} {enc0 : TypeId × Value → H} {W : World} {base : Nat} {spare : Nat → Bool} {held : Bool}

theorem opens_act : Opens enc0 Try.prog W base spare held (fun (a : Act) cs => cs = encA a) 46 := by
  refine opens_structN Try.underlying46 (fun cs hl hf => ?_)
  rw [show Try.prog.cellsOf 46 = 2 by kernel_rfl] at hl
  obtain ⟨n0, y0, t0, _⟩ := hf 0 _ rfl
  obtain ⟨n1, y1, t1, _⟩ := hf 1 _ rfl
  obtain ⟨x0, e0, _⟩ := DataW.trod_int Try.underlying3 (cell1 (c := 1) (t := 3) (o := 0) (by kernel_rfl) t0)
  obtain ⟨x1, e1, _⟩ := DataW.trod_int Try.underlying3 (cell1 (c := 1) (t := 3) (o := 1) (by kernel_rfl) t1)
  match cs, hl with
  | [a, b], _ =>
    simp at e0 e1
    subst e0 e1
    exact ⟨⟨x0, x1⟩, rfl⟩

def ActsAt (W : World) (v : Value) (l : List Act) : Prop := Rd encA 2 W v l ∧ l.length ≤ 1000000000000000

theorem acts_arg {ts : List TypeId} {ds : List (DataW H)} {j : Nat} {v : Value} {d : DataW H} {ps : List MemPlace} {r : Reach} {b0 : Nat} (hsz : (DataW.weightsEach Try.prog ts ds).all (· ≤ reachBytes) = true) (ht : ts[j]? = some 42) (hd : ds[j]? = some d)
    (hv : Value.okWide Try.prog W r b0 42 v) (h : DataW.Trod enc0 Try.prog W base spare held 42 v d ps) : ∃ l, ActsAt W v l := by
  obtain ⟨a, len, cap, rfl⟩ := okWide_slice Try.underlying42 hv
  obtain ⟨l, hl⟩ := opens_arg hsz ht hd h (opens_slice (sz := 2) (B := 16) Try.underlying42 (by kernel_rfl) (by decide) (by kernel_rfl) opens_act)
  have hb : l.length * 16 ≤ 140737488351232 := by
    obtain ⟨_, _, _, _, _, _, hb, _⟩ := hl
    exact hb
  exact ⟨l, rd_of_sl hl (by decide) encA_len, by omega⟩

theorem act_cells {w : World} {b off : Nat} {l : List Act} (h : ∀ (j : Nat) (x : Act) (i : Nat) (u : Value), l[j]? = some x → (encA x)[i]? = some u → w.cell? ⟨b, off + j * 2 + i, none⟩ = some u) {k : Nat} {x : Act} (hx : l[k]? = some x) :
    w.cell? ⟨b, off + k * 2, none⟩ = some (.int .i64 x.what) ∧ w.cell? ⟨b, off + k * 2 + 1, none⟩ = some (.int .i64 x.n) :=
  ⟨h k x 0 _ hx rfl, h k x 1 _ hx rfl⟩
end

/-- append([]e{u}, xs...), whatever row xs is. -/
theorem wpList_front {P : Program} {t e : TypeId} {z : Value} {bytes : Nat} (E : Elem P t e z 1 bytes) (w : World) {ops : Array Oper} {rest : List Oper} {o : Oper} {a : Go.Act} {Q : Exit → Go.Act → World → Prop} (hgd : o.guard = none) (s x : Operand)
    (ho : o.op = .call { callee := .builtin .append, args := #[s, x], argTypes := #[t, t] }) (q : Nat) (u : Value) (hs : a.eval s = .slice (some ⟨q, 0, none⟩) 1 1) (hq : Own w e 1 (.slice (some ⟨q, 0, none⟩) 1 1) 1 [u])
    (A : Option Addr) (n c : Nat) (xs : List Value) (hx : a.eval x = .slice A n c) (hown : Own w e 1 (.slice A n c) n xs) (h1 : ∀ u ∈ xs, u.oneCell' = true) (h63 : 1 + n ≤ maxLen) (hbytes : (1 + n) * bytes ≤ 140737488355328)
    (h : ∀ g cap w', Own w' e 1 (.slice (some ⟨g, 0, none⟩) (1 + n) cap) (1 + n) (u :: xs) → w.grownBy w' (some q) → (g = q ∨ w.heap.size ≤ g) → wpList P ops Q rest (a.put o.dst (.slice (some ⟨g, 0, none⟩) (1 + n) cap)) w') :
    wpList P ops Q (o :: rest) a w := by
  rcases Own.form hown with ⟨hv, hn⟩ | ⟨g, cap, hv, _⟩
  · cases hv
    have hxs : xs = [] := by
      have h2 := hown.1
      simpa using h2
    subst hxs
    have E' := E
    obtain ⟨ht, ⟨i, hi, hz, hsz, _⟩, _, _⟩ := E'
    have hr : (Builtin.append_ #[t, t] o.type #[.slice (some ⟨q, 0, none⟩) 1 1, .slice none 0 0]).run P w = .ok (.slice (some ⟨q, 0, none⟩) 1 1) w := by
      simp [Builtin.append_, run_underlying ht, sizeOf, typeInfo, hi, storeCells, Builtin.lenOf, Builtin.firstCells]
    refine wpList_plain hgd fun K hK => ?_
    unfold Oper.wp execOp
    simp only [ho, resolve, invoke, builtin, Sem.run_bind, Sem.run_pure, Result.andThen_ok, List.map_toArray, List.map_cons, List.map_nil, hs, hx, hr]
    exact hK _ _ (h q 1 w hq (World.grownBy.refl _ _) (.inl rfl))
  · cases hv
    refine wpList_appN E w hgd s x ho _ 1 [u] hs hq ⟨g, 0, none⟩ n _ xs hx hown.1 (fun j y hy => by
      rw [Addr.add_lit, Nat.zero_add]
      have hj : j < n * 1 := by have := (List.getElem?_eq_some_iff.1 hy).1; rw [hown.1] at this; exact this
      rw [World.ownsRow.cellAt hown j hj]; exact hy) h1 h63 hbytes ?_
    intro v' w' ho' hg hf hs'
    rcases Own.form ho' with ⟨_, h0⟩ | ⟨g', cap', rfl, _⟩
    · omega
    · refine h g' cap' w' ho' hg ?_
      rcases hf g' rfl with h2 | h2
      · simp only [Value.ownBlock, Option.some.injEq] at h2; exact .inl h2.symm
      · exact .inr h2

theorem nodup_at {l : List Int} (h : l.Nodup) {ix : Nat} {n : Int} (hx : l[ix]? = some n) : ∀ (j : Nat) (y : Int), j < ix → l[j]? = some y → y ≠ n := by
  intro j y hj hy hyn
  subst hyn
  have hlt := (List.getElem?_eq_some_iff.1 hx).1
  have h2 := List.pairwise_iff_getElem.1 h j ix (by omega) hlt hj
  rw [List.getElem?_eq_getElem (by omega)] at hy hx
  simp at hy hx
  exact h2 (hy.trans hx.symm)

theorem any_of {l : List Int} {ix : Nat} {n : Int} (hx : l[ix]? = some n) : (l.any fun y => y == n) = true := by
  rw [List.any_eq_true]; exact ⟨n, List.mem_of_getElem? hx, by simp⟩

theorem any_no {l : List Int} {n : Int} (h : ∀ (j : Nat) (y : Int), j < l.length → l[j]? = some y → (y == n) = false) : (l.any fun y => y == n) = false := by
  rw [List.any_eq_false]
  intro y hy
  obtain ⟨j, hj, he⟩ := List.getElem_of_mem hy
  rw [h j y hj (by rw [List.getElem?_eq_getElem hj, he])]
  simp

theorem nodup_app {l : List Int} (h : l.Nodup) {n : Int} (hn : (l.any fun y => y == n) = false) : (l ++ [n]).Nodup := by
  rw [List.any_eq_false] at hn
  rw [List.nodup_append]
  refine ⟨h, by simp, fun a ha b hb => ?_⟩
  simp at hb
  subst hb
  intro e
  subst e
  exact hn a ha (by simp)

theorem nodup_front {l : List Int} (h : l.Nodup) {n : Int} (hn : (l.any fun y => y == n) = false) : (n :: l).Nodup := by
  rw [List.any_eq_false] at hn
  exact List.nodup_cons.2 ⟨fun hm => hn n hm (by simp), h⟩

theorem nodup_erase {l : List Int} (h : l.Nodup) (ix : Nat) : (l.eraseIdx ix).Nodup := h.sublist (List.eraseIdx_sublist ..)

/-- One of the law's own rows put in the place of another. -/
theorem DqR.put {w wr w' : World} {d : Nat} {l m m' : List Int} {v v' : Value} (h : DqR w d l v m wr) (ho : Own w' 3 1 v' m'.length (m'.map (Value.int .i64))) (k : Keeps NoBlock wr w') (hf : ∀ b, v'.ownBlock = some b → wr.heap.size ≤ b) : DqR w d l v' m' w' :=
  h.row ho (k.mono (fun _ _ h => h.elim)) (fun b hb => .inr (hf b hb))

theorem without_R {w wr : World} {d : Nat} {l m : List Int} {A : Option Addr} {c ix nn : Nat} {x : Int} (hnn : m.length = nn) (R : DqR w d l (.slice A nn c) m wr) (hx : m[ix]? = some x) (hl : m.length ≤ 1000000) :
    Calls Try.prog 12 #[.slice A nn c, .int .i64 ix] wr fun e w' => ∃ A' c', e = .returned (.slice A' (m.eraseIdx ix).length c') ∧ DqR w d l (.slice A' (m.eraseIdx ix).length c') (m.eraseIdx ix) w' := by
  subst hnn
  have hlt := (List.getElem?_eq_some_iff.1 hx).1
  obtain ⟨g, rfl⟩ : ∃ g, A = some ⟨g, 0, none⟩ := by
    rcases Own.form R.own with ⟨_, h0⟩ | ⟨g, c', h, _⟩
    · omega
    · cases h; exact ⟨g, rfl⟩
  refine (without_calls g m.length c ix m wr rfl R.own hlt hl).mono ?_
  rintro e w' ⟨A', c', rfl, ho, hf, hk⟩
  have hln : (m.eraseIdx ix).length = m.length - 1 := List.length_eraseIdx_of_lt hlt
  rw [← hln] at ho hf ⊢
  exact ⟨A', c', rfl, R.put ho hk hf⟩

def PRel (w : World) (d : Nat) (len k : Nat) (v i : Value) (wr : World) : Prop :=
  ∃ (l : List Int) (A : Option Addr) (c : Nat), k ≤ 100 ∧ k ≤ len ∧ i = .int .i64 k ∧ v = .slice A l.length c ∧ l.length ≤ k ∧ DqR w d l v l wr ∧ l.Nodup

set_option maxHeartbeats 4000000 in
set_option maxRecDepth 100000 in
theorem plays_calls (A : Option Addr) (b off len cap : Nat) (zs : List Act) (hzl : zs.length = len) (w : World) (hA : 0 < len → A = some ⟨b, off, none⟩ ∧ b < w.heap.size)
    (hc : ∀ (j : Nat) (x : Act) (i : Nat) (u : Value), zs[j]? = some x → (encA x)[i]? = some u → w.cell? ⟨b, off + j * 2 + i, none⟩ = some u) (hl : len ≤ 1000000000000000) :
    Calls Try.prog 6 #[.slice A len cap] w (EndsPost w) := by
  have Hc := Lib.hid hc
  have HA := Lib.hid hA
  have Hzl := Lib.hid hzl
  clear hc hA hzl
  go_enter Try.func6, Try.ntmps6
  go_wp2_with fail
  refine (inv_new w).mono ?_
  rintro e w1 ⟨rfl, I1⟩
  obtain ⟨d, hd⟩ : ∃ d, d = w.heap.size := ⟨_, rfl⟩
  rw [← hd] at I1 ⊢
  clear hd
  have R1 := dq_row0 I1.toS
  clear I1
  go_wp2_with fail
  go_loopw [4, 5] (fun v i wr => ∃ k, PRel w d len k v i wr) (fun _ i _ => 100 - (intOf i).toNat)
  case atStart => exact ⟨0, [], _, _, by omega, by omega, rfl, rfl, Nat.le_refl _, R1, List.nodup_nil⟩
  case round =>
    obtain ⟨k, l, A5, c5, hk, hkl, rfl, rfl, hll, R, hnd⟩ := hrel
    clear R1
    have HR := Lib.hid R
    have Hnd := Lib.hid hnd
    have hkp := R.s.kp
    clear R hnd
    by_cases hlt : k < len ∧ k < 100
    · obtain ⟨hlt, hlt6⟩ := hlt
      obtain ⟨rfl, hbw⟩ := HA.out (by omega)
      obtain ⟨x, hx⟩ : ∃ x, zs[k]? = some x := ⟨_, List.getElem?_eq_getElem (by rw [Hzl.out]; exact hlt)⟩
      obtain ⟨q0, q1⟩ := act_cells Hc.out hx
      obtain ⟨wh, n⟩ := x
      dsimp only at q0 q1
      have c0 : wr.cell? ⟨b, off + k * 2, none⟩ = some (.int .i64 wh) := by rw [hkp.cell hbw (fun h => h)]; exact q0
      have c1 : wr.cell? ⟨b, off + k * 2 + 1, none⟩ = some (.int .i64 n) := by rw [hkp.cell hbw (fun h => h)]; exact q1
      have Q0 := Lib.hid q0
      clear hx q0 q1 hkp
      have ho := HR.out.own
      obtain ⟨nl, hnl⟩ : ∃ nl, Hid (l.length = nl) := ⟨_, rfl⟩
      rw [hnl.out] at ho hll ⊢
      have Ho := Lib.hid ho
      clear ho
      go_wp2_with fail
      go_loop [7, 8] (fun a i => ∃ j : Nat, j ≤ nl ∧ i = .int .i64 j ∧ ((a = .int .i64 (-1) ∧ Hid (∀ (t : Nat) (y : Int), t < j → l[t]? = some y → (y == n) = false)) ∨ ∃ ix : Nat, ix < j ∧ a = .int .i64 ix ∧ Hid (l[ix]? = some n))) (fun _ i => nl - (intOf i).toNat)
      case atStart => exact ⟨0, Nat.zero_le _, rfl, .inl ⟨rfl, fun t y ht => by omega⟩⟩
      case round =>
        obtain ⟨j, hj, rfl, ha⟩ := hrel
        by_cases hjl : j < nl
        · obtain ⟨g5, rfl⟩ : ∃ g5, A5 = some ⟨g5, 0, none⟩ := by
            rcases Own.form Ho.out with ⟨_, h0⟩ | ⟨g, c, h1, _⟩
            · omega
            · cases h1; exact ⟨g, rfl⟩
          obtain ⟨y, hy⟩ : ∃ y, l[j]? = some y := ⟨_, List.getElem?_eq_getElem (by rw [hnl.out]; exact hjl)⟩
          have cy : wr.cell? ⟨g5, j, none⟩ = some (.int .i64 y) := by rw [World.ownsRow.cellAt Ho.out j (by omega), List.getElem?_map, hy]; rfl
          have Hy := Lib.hid hy
          clear hy
          have Ha := Lib.hid ha
          clear ha
          by_cases hyn : y = n
          · subst hyn
            have hb : (y == y) = true := by simp
            go_wp2_with fail
            exact ⟨⟨j + 1, by omega, by go_num, .inr ⟨j, by omega, rfl, Hy⟩⟩, by simp [intOf]; omega⟩
          · have hb : (y == n) = false := by simp [hyn]
            have Hb := Lib.hid hb
            clear hyn
            go_wp2_with fail
            refine ⟨⟨j + 1, by omega, by go_num, ?_⟩, by simp [intOf]; omega⟩
            rcases Ha.out with ⟨rfl, h⟩ | ⟨ix, h1, rfl, h2⟩
            · refine .inl ⟨rfl, fun t z ht hz => ?_⟩
              by_cases e : t = j
              · subst e
                have h2 := Hy.out
                rw [hz] at h2
                cases h2
                exact Hb.out
              · exact h.out t z (by omega) hz
            · exact .inr ⟨ix, by omega, rfl, h2⟩
        · obtain rfl : j = nl := by omega
          have HR' : Hid (DqR w d l (.slice A5 j c5) l wr) := by show DqR _ _ _ _ _ _; have h := HR.out; rw [hnl.out] at h; exact h
          clear HR Ho
          have hsame : Hid (∀ w', DqR w d l (.slice A5 j c5) l w' → PRel w d len (k + 1) (.slice A5 j c5) (.int .i64 ((k : Nat) + 1 : Nat)) w') := fun w' R => ⟨l, A5, c5, by omega, by omega, rfl, by rw [hnl.out], by rw [hnl.out]; omega, R, Hnd.out⟩
          have hgo : Hid (∀ (l' : List Int) A' c' w' (nn : Nat), l'.length = nn → nn ≤ k + 1 → l'.Nodup → DqR w d l' (.slice A' nn c') l' w' → PRel w d len (k + 1) (.slice A' nn c') (.int .i64 ((k : Nat) + 1 : Nat)) w') := fun l' A' c' w' nn hn hn2 hnd R => by
            subst hn
            exact ⟨l', A', c', by omega, by omega, rfl, rfl, by omega, R, hnd⟩
          rcases (by omega : wh = 0 ∨ wh = 1 ∨ wh = 2 ∨ wh = 3 ∨ (wh ≠ 0 ∧ wh ≠ 1 ∧ wh ≠ 2 ∧ wh ≠ 3)) with rfl | rfl | rfl | rfl | ⟨n0, n1, n2, n3⟩
          · rcases ha with ⟨rfl, hno⟩ | ⟨ix, hix, rfl, hx⟩
            · have hany : Hid ((l.any fun y => y == n) = false) := any_no (fun t y ht => hno.out t y (by rw [hnl.out] at ht; exact ht))
              have hp := Lib.hid (r_step HR'.out (fun col h => push_new d l n wr h hany.out (by rw [hnl.out]; omega)))
              clear hno
              go_wp2_with fail
              refine hp.out.mono ?_
              rintro e w2 ⟨rfl, R2⟩
              have c2 : w2.cell? ⟨b, off + k * 2, none⟩ = some (.int .i64 0) := by rw [R2.s.kp.cell hbw (fun h => h)]; exact Q0.out
              have HR2 := Lib.hid R2
              have ho2 := R2.own
              rw [hnl.out] at ho2
              have Ho2 := Lib.hid ho2
              clear R2 c0 c1 ho2
              go_wp2_with (at_builtin; refine wpList_appN eI _ rfl _ _ rfl (.slice A5 j c5) j (l.map (Value.int .i64)) rfl (World.ownsRow.alloc Ho2.out _) ⟨w2.heap.size, 0, none⟩ 1 1 [.int .i64 n] rfl rfl (newsB (e := 3) (block_alloc_new w2 _)) ?_ ?_ ?_ ?_)
              · simp [Value.oneCell']
              · simp only [maxLen]; omega
              · omega
              rintro v4 w4 ho4 hg4 hf4 g4 c4 rfl
              have hln : (l ++ [n]).length = j + 1 := by rw [List.length_append, hnl.out]; rfl
              have hfin := Lib.hid (hgo.out (l ++ [n]) (some ⟨g4, 0, none⟩) c4 w4 (j + 1) hln (by omega) (nodup_app Hnd.out hany.out) (HR2.out.row (by rw [hln, List.map_append]; exact ho4) ((Keeps.refl _ w2).alloc _ |>.grown hg4 (fun b hb => .inl (by rw [hb]))) (fun b hb => (hf4 b hb).imp id (fun h => by have h' := h; (try simp only [World.size_alloc] at h'); omega))))
              clear ho4 hg4 hf4 hln
              go_wp2_with fail
              exact ⟨⟨k + 1, by have h := hfin.out; exact h⟩, by simp [intOf]; omega⟩
            · have hp := Lib.hid (s_same HR'.out.s (fun col h => push_has d l n wr h (any_of hx.out)))
              go_wp2_with fail
              refine hp.out.mono ?_
              rintro e w2 ⟨rfl, rfl⟩
              go_wp2_with fail
              exact ⟨⟨k + 1, by have h := hsame.out _ HR'.out; exact h⟩, by simp [intOf]; omega⟩
          · rcases ha with ⟨rfl, hno⟩ | ⟨ix, hix, rfl, hx⟩
            · have hany : Hid ((l.any fun y => y == n) = false) := any_no (fun t y ht => hno.out t y (by rw [hnl.out] at ht; exact ht))
              have hp := Lib.hid (r_step HR'.out (fun col h => pushF_new d l n wr h hany.out (by rw [hnl.out]; omega)))
              clear hno
              go_wp2_with fail
              refine hp.out.mono ?_
              rintro e w2 ⟨rfl, R2⟩
              have c2 : w2.cell? ⟨b, off + k * 2, none⟩ = some (.int .i64 1) := by rw [R2.s.kp.cell hbw (fun h => h)]; exact Q0.out
              have HR2 := Lib.hid R2
              have ho2 := R2.own
              rw [hnl.out] at ho2
              have Ho2 := Lib.hid ho2
              clear R2 c0 c1 ho2
              have hq0 : Own (w2.alloc (.cells #[.int .i64 n] 3)) 3 1 (.slice (some ⟨w2.heap.size, 0, none⟩) 1 1) 1 [.int .i64 n] := World.ownsRow_lit (base := 0) (e := 3) (size := 1) w2 #[.int .i64 n] 1 (Nat.zero_le _) (by simp [maxLen]) (by simp)
              have Hq0 := Lib.hid hq0
              clear hq0
              go_wp2_with (at_builtin; refine wpList_front eI _ rfl _ _ rfl w2.heap.size (.int .i64 n) rfl Hq0.out A5 j c5 (l.map (Value.int .i64)) rfl (World.ownsRow.alloc Ho2.out _) (ints_one .i64 l) ?_ ?_ ?_)
              · simp only [maxLen]; omega
              · omega
              intro g4 c4 w4 ho4 hg4 hf4
              have hln : (n :: l).length = 1 + j := by rw [List.length_cons, hnl.out, Nat.add_comm]
              have hfin := Lib.hid (hgo.out (n :: l) (some ⟨g4, 0, none⟩) c4 w4 (1 + j) hln (by omega) (nodup_front Hnd.out hany.out) (HR2.out.put (by rw [hln, List.map_cons]; exact ho4) ((Keeps.refl _ w2).alloc _ |>.grown hg4 (fun b hb => .inr (by simp only [Option.some.injEq] at hb; omega))) (fun b hb => by
                simp only [Value.ownBlock, Option.some.injEq] at hb
                omega)))
              clear ho4 hg4 hf4 hln
              go_wp2_with fail
              exact ⟨⟨k + 1, by have h := hfin.out; exact h⟩, by simp [intOf]; omega⟩
            · have hp := Lib.hid (s_same HR'.out.s (fun col h => pushF_has d l n wr h (any_of hx.out)))
              go_wp2_with fail
              refine hp.out.mono ?_
              rintro e w2 ⟨rfl, rfl⟩
              go_wp2_with fail
              exact ⟨⟨k + 1, by have h := hsame.out _ HR'.out; exact h⟩, by simp [intOf]; omega⟩
          · clear ha
            rcases Nat.eq_zero_or_pos j with h0 | hpos
            · subst h0
              obtain rfl : l = [] := List.eq_nil_of_length_eq_zero hnl.out
              have hp := Lib.hid (s_same HR'.out.s (fun col h => pop_empty d wr h))
              go_wp2_with fail
              refine hp.out.mono ?_
              rintro e w2 ⟨rfl, rfl⟩
              go_wp2_with fail
              exact ⟨⟨k + 1, by have h := hsame.out _ HR'.out; exact h⟩, by simp [intOf]; omega⟩
            · obtain ⟨g5, rfl⟩ : ∃ g5, A5 = some ⟨g5, 0, none⟩ := by
                rcases Own.form HR'.out.own with ⟨_, h0⟩ | ⟨g, c, h1, _⟩
                · rw [hnl.out] at h0; omega
                · cases h1; exact ⟨g, rfl⟩
              skip
              obtain ⟨x, hx⟩ : ∃ x, l[0]? = some x := ⟨_, List.getElem?_eq_getElem (by rw [hnl.out]; omega)⟩
              have hp := Lib.hid (r_step HR'.out (fun col h => pop_calls d l x wr h (by exact hx)))
              have Hx := Lib.hid hx
              clear hx
              go_wp2_with fail
              refine hp.out.mono ?_
              rintro e w2 ⟨rfl, R2⟩
              have ho2 := R2.own
              rw [hnl.out] at ho2
              have cx : w2.cell? ⟨g5, 0, none⟩ = some (.int .i64 x) := by rw [World.ownsRow.cellAt ho2 0 (by omega), List.getElem?_map, Hx.out]; rfl
              have hxx : (x != x) = false := by simp
              have R2' : DqR w d (l.eraseIdx 0) (.slice (some ⟨g5, 0, none⟩) j c5) l w2 := by exact R2
              have hw := Lib.hid (without_R hnl.out R2' Hx.out (by rw [hnl.out]; omega))
              clear R2 ho2 R2'
              go_wp2_with fail
              refine hw.out.mono ?_
              rintro e w3 ⟨A3, c3, rfl, R3⟩
              have hln : (l.eraseIdx 0).length ≤ k + 1 := by rw [List.length_eraseIdx_of_lt (by rw [hnl.out]; omega), hnl.out]; omega
              have hfin := Lib.hid (hgo.out _ _ _ _ _ rfl hln (nodup_erase Hnd.out 0) R3)
              clear R3 hln
              go_wp2_with fail
              exact ⟨⟨k + 1, by have h := hfin.out; first | exact h | (rw [List.length_eraseIdx_of_lt (by rw [hnl.out]; omega)] at h; exact h)⟩, by simp [intOf]; omega⟩
          · clear ha
            rcases Nat.eq_zero_or_pos j with h0 | hpos
            · subst h0
              obtain rfl : l = [] := List.eq_nil_of_length_eq_zero hnl.out
              have hp := Lib.hid (s_same HR'.out.s (fun col h => popB_empty d wr h))
              go_wp2_with fail
              refine hp.out.mono ?_
              rintro e w2 ⟨rfl, rfl⟩
              go_wp2_with fail
              exact ⟨⟨k + 1, by have h := hsame.out _ HR'.out; exact h⟩, by simp [intOf]; omega⟩
            · obtain ⟨g5, rfl⟩ : ∃ g5, A5 = some ⟨g5, 0, none⟩ := by
                rcases Own.form HR'.out.own with ⟨_, h0⟩ | ⟨g, c, h1, _⟩
                · rw [hnl.out] at h0; omega
                · cases h1; exact ⟨g, rfl⟩
              obtain ⟨ix, hix⟩ : ∃ ix : Nat, (j : Int) - 1 = ix := ⟨((j : Int) - 1).toNat, by omega⟩
              obtain ⟨x, hx⟩ : ∃ x, l[ix]? = some x := ⟨_, List.getElem?_eq_getElem (by rw [hnl.out]; omega)⟩
              have hp := Lib.hid (r_step HR'.out (fun col h => popB_calls d l x wr h (by rw [hnl.out, show j - 1 = ix by omega]; exact hx)))
              have Hx := Lib.hid hx
              clear hx
              go_wp2_with fail
              refine hp.out.mono ?_
              rintro e w2 ⟨rfl, R2⟩
              have ho2 := R2.own
              rw [hnl.out] at ho2
              have cx : w2.cell? ⟨g5, ix, none⟩ = some (.int .i64 x) := by rw [World.ownsRow.cellAt ho2 ix (by omega), List.getElem?_map, Hx.out]; rfl
              have hxx : (x != x) = false := by simp
              have R2' : DqR w d (l.eraseIdx ix) (.slice (some ⟨g5, 0, none⟩) j c5) l w2 := by rw [hnl.out, show j - 1 = ix by omega] at R2; exact R2
              have hw := Lib.hid (without_R hnl.out R2' Hx.out (by rw [hnl.out]; omega))
              clear R2 ho2 R2'
              go_wp2_with fail
              refine hw.out.mono ?_
              rintro e w3 ⟨A3, c3, rfl, R3⟩
              have hln : (l.eraseIdx ix).length ≤ k + 1 := by rw [List.length_eraseIdx_of_lt (by rw [hnl.out]; omega), hnl.out]; omega
              have hfin := Lib.hid (hgo.out _ _ _ _ _ rfl hln (nodup_erase Hnd.out ix) R3)
              clear R3 hln
              go_wp2_with fail
              exact ⟨⟨k + 1, by have h := hfin.out; first | exact h | (rw [List.length_eraseIdx_of_lt (by rw [hnl.out]; omega)] at h; exact h)⟩, by simp [intOf]; omega⟩
          · have e0 : (wh == 0) = false := by simp [n0]
            have e1 : (wh == 1) = false := by simp [n1]
            have e2 : (wh == 2) = false := by simp [n2]
            have e3 : (wh == 3) = false := by simp [n3]
            clear n0 n1 n2 n3
            rcases ha with ⟨rfl, hno⟩ | ⟨ix, hix, rfl, hx⟩
            · have hp := Lib.hid (s_same HR'.out.s (fun col h => drop_none d l n wr h (any_no (fun t y ht => hno.out t y (by rw [hnl.out] at ht; exact ht)))))
              go_wp2_with fail
              refine hp.out.mono ?_
              rintro e w2 ⟨rfl, rfl⟩
              go_wp2_with fail
              exact ⟨⟨k + 1, by have h := hsame.out _ HR'.out; exact h⟩, by simp [intOf]; omega⟩
            · have hp := Lib.hid (r_step HR'.out (fun col h => drop_some d l n ix wr h hx.out (nodup_at Hnd.out hx.out)))
              go_wp2_with fail
              refine hp.out.mono ?_
              rintro e w2 ⟨rfl, R2⟩
              have hw := Lib.hid (without_R hnl.out R2 hx.out (by rw [hnl.out]; omega))
              clear R2
              go_wp2_with fail
              refine hw.out.mono ?_
              rintro e w3 ⟨A3, c3, rfl, R3⟩
              have hln : (l.eraseIdx ix).length ≤ k + 1 := by rw [List.length_eraseIdx_of_lt (by rw [hnl.out]; exact hix), hnl.out]; omega
              have hfin := Lib.hid (hgo.out _ _ _ _ _ rfl hln (nodup_erase Hnd.out ix) R3)
              clear R3 hln
              go_wp2_with fail
              exact ⟨⟨k + 1, by have h := hfin.out; exact h⟩, by simp [intOf]; omega⟩
    · have hend : (k : Int) < len → (100 : Int) ≤ k := by omega
      have Hend := Lib.hid hend
      clear hend hlt
      go_upto_region 4 with fail
      go_cut [22] from 15 to 21 (fun v wx => v = .bool false ∧ wr = wx)
      case first =>
        by_cases h1 : k < len
        · have h2 : 100 ≤ (k : Int) := Hend.out (by omega)
          go_wp2_with fail
          go_meet
          case rel => exact ⟨by rw [decide_eq_false (by omega)], rfl⟩
        · have h2 : (len : Int) ≤ k := by omega
          clear h1
          go_wp2_with fail
          go_meet
          case rel => exact ⟨rfl, rfl⟩
      case rest =>
        obtain ⟨rfl, rfl⟩ := hcut
        go_wp2_with fail
        refine (awake05_calls _).mono ?_
        rintro e w2 ⟨rfl, k2⟩
        have S2 := Lib.hid (HR.out.s.keeps k2)
        have R2 := Lib.hid ((Own.readsI HR.out.own).keeps k2 (fun _ _ h => h))
        clear k2
        go_wp2_with fail
        refine (s_all S2.out).mono ?_
        rintro e w5 ⟨A5', c5', rfl, r5, k5, S5, _⟩
        have R5 := Lib.hid (R2.out.keeps k5 (fun _ _ h => h))
        have Q5 := Lib.hid r5
        have K5 := Lib.hid S5.kp
        clear r5 k5 S5
        go_wp2_with fail
        refine (ints_calls _ _ l l w5 Q5.out R5.out (by omega) (by omega)).mono ?_
        rintro e w6 ⟨rfl, k6⟩
        rw [decide_eq_true rfl]
        go_wp2_with fail
        go_ret
        exact ⟨rfl, (K5.out.trans k6 (fun _ _ h => h)).below (Nat.le_refl _) (fun _ h => h.elim)⟩

theorem plays_row (w : World) (v : Value) (l : List Act) (h : ActsAt w v l) : Calls Try.prog 6 #[v] w fun e w' => e = .returned (.bool true) ∧ Below w.heap.size w w' := by
  obtain ⟨⟨A, b, off, cap, rfl, hA, hc⟩, hl⟩ := h
  exact plays_calls A b off l.length cap l rfl w hA hc hl
end Dq
end Go.Proofs.Ytmpingalekdlnaa
