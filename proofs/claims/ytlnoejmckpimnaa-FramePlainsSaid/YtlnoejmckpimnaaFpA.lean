/- FramePlains: the good ways: lemmas, and Set. -/
import Derived.Test.YtlnoejmckpimnaaFrV
import Derived.Test.YtlnoejmckpimnaaFrS
import Derived.Test.YtlnoejmckpimnaaApp
namespace Go.Proofs.Ytlnoejmckpimnaa
open Go.RowKit Ieee
namespace Fr

set_option maxRecDepth 100000 in
theorem ten_set {F P r0 r1 r2 r3 r4 r5 r6 r7 q0 q1 q2 q3 q4 q5 q6 q7 N : Int} {k : Nat} (hk : k < 8) (h : [r0, r1, r2, r3, r4, r5, r6, r7].set k N = [q0, q1, q2, q3, q4, q5, q6, q7]) :
    (#[.int .i64 F, .int .i64 P, .int .u64 r0, .int .u64 r1, .int .u64 r2, .int .u64 r3, .int .u64 r4, .int .u64 r5, .int .u64 r6, .int .u64 r7] : Array Value).setIfInBounds (2 + k) (.int .u64 N) = #[.int .i64 F, .int .i64 P, .int .u64 q0, .int .u64 q1, .int .u64 q2, .int .u64 q3, .int .u64 q4, .int .u64 q5, .int .u64 q6, .int .u64 q7] := by
  match k, hk with
  | 0, _ | 1, _ | 2, _ | 3, _ | 4, _ | 5, _ | 6, _ | 7, _ =>
    simp only [List.set_cons_zero, List.set_cons_succ, List.cons.injEq, and_true] at h
    obtain ⟨rfl, rfl, rfl, rfl, rfl, rfl, rfl, rfl⟩ := h
    rfl

theorem own_new {w : World} {e : TypeId} (k : Nat) (h : k = w.heap.size) : Own (w.alloc (.cells #[] e)) e 1 (.slice (some ⟨k, 0, none⟩) 0 0) 0 [] := by
  subst h
  exact World.ownsRow_lit w #[] 0 (Nat.zero_le _) (by simp [maxLen]) (by simp)

theorem own_setCells {w : World} {e : TypeId} {s : Nat} {v : Value} {n b o : Nat} {xs zs : List Value} (h : Own w e s v n xs) (hne : v.ownBlock ≠ some b) : Own (w.setCells b o zs) e s v n xs :=
  h.keeps (S := fun k => k = b) (Keeps.setCells (S := fun k => k = b) (.inl rfl) _ _ _ (Keeps.refl _ _)) (fun k hk e => hne (by rw [hk, e]))

theorem own_set1 {w : World} {e : TypeId} {s : Nat} {v u : Value} {n b o : Nat} {xs : List Value} (h : Own w e s v n xs) (hne : v.ownBlock ≠ some b) : Own (w.setCell ⟨b, o, none⟩ u) e s v n xs :=
  h.keeps (S := fun k => k = b) (Keeps.set (S := fun k => k = b) (Keeps.refl _ _) (.inl rfl) _) (fun k hk e => hne (by rw [hk, e]))

theorem own_drew {w : World} {e : TypeId} {s : Nat} {v : Value} {n : Nat} {xs : List Value} (h : Own w e s v n xs) : Own w.drew e s v n xs := World.ownsRow.drew h

theorem own_some {w : World} {e : TypeId} {s : Nat} {A : Option Addr} {n c : Nat} {xs : List Value} (h : Own w e s (.slice A n c) n xs) (hn : 0 < n) : ∃ g, A = some ⟨g, 0, none⟩ := by
  rcases Own.form h with ⟨_, h0⟩ | ⟨g, cap, hv, _⟩
  · omega
  · injection hv with h1
    exact ⟨g, h1⟩

theorem ten_at {w' : World} {b : Nat} {F P r0 r1 r2 r3 r4 r5 r6 r7 : Int} {t : TypeId} (h : w'.heap[b]? = some (.cells #[.int .i64 F, .int .i64 P, .int .u64 r0, .int .u64 r1, .int .u64 r2, .int .u64 r3, .int .u64 r4, .int .u64 r5, .int .u64 r6, .int .u64 r7] t (0, 0))) :
    w'.cell? ⟨b, 0, none⟩ = some (.int .i64 F) ∧ w'.cell? ⟨b, 1, none⟩ = some (.int .i64 P) ∧ w'.cell? ⟨b, 2, none⟩ = some (.int .u64 r0) ∧ w'.cell? ⟨b, 3, none⟩ = some (.int .u64 r1) ∧ w'.cell? ⟨b, 4, none⟩ = some (.int .u64 r2) ∧ w'.cell? ⟨b, 5, none⟩ = some (.int .u64 r3) ∧ w'.cell? ⟨b, 6, none⟩ = some (.int .u64 r4) ∧ w'.cell? ⟨b, 7, none⟩ = some (.int .u64 r5) ∧ w'.cell? ⟨b, 8, none⟩ = some (.int .u64 r6) ∧ w'.cell? ⟨b, 9, none⟩ = some (.int .u64 r7) := ⟨cell_of_block (o := 0) h rfl, cell_of_block (o := 1) h rfl, cell_of_block (o := 2) h rfl, cell_of_block (o := 3) h rfl, cell_of_block (o := 4) h rfl, cell_of_block (o := 5) h rfl, cell_of_block (o := 6) h rfl, cell_of_block (o := 7) h rfl, cell_of_block (o := 8) h rfl, cell_of_block (o := 9) h rfl⟩

theorem ten_frozen {w' : World} {b : Nat} {c : Array Value} {t : TypeId} (h : w'.heap[b]? = some (.cells c t (0, 0))) :
    w'.frozen? ⟨b, 0, none⟩ = false ∧ w'.frozen? ⟨b, 1, none⟩ = false ∧ w'.frozen? ⟨b, 2, none⟩ = false ∧ w'.frozen? ⟨b, 3, none⟩ = false ∧ w'.frozen? ⟨b, 4, none⟩ = false ∧ w'.frozen? ⟨b, 5, none⟩ = false ∧ w'.frozen? ⟨b, 6, none⟩ = false ∧ w'.frozen? ⟨b, 7, none⟩ = false ∧ w'.frozen? ⟨b, 8, none⟩ = false ∧ w'.frozen? ⟨b, 9, none⟩ = false := ⟨frozen_of_block h (o := 0), frozen_of_block h (o := 1), frozen_of_block h (o := 2), frozen_of_block h (o := 3), frozen_of_block h (o := 4), frozen_of_block h (o := 5), frozen_of_block h (o := 6), frozen_of_block h (o := 7), frozen_of_block h (o := 8), frozen_of_block h (o := 9)⟩

/-- What region 10 leaves: a copy of the frame and one of the memory. -/
structure Want (w3 wx : World) (n bw : Nat) (v : Value) (ms : List Int) (C : Array Value) : Prop where
  kp : Keeps NoBlock w3 wx
  bl : wx.heap[bw]? = some (.cells C 29 (0, 0))
  own : Own wx 26 1 v n (ms.map rv)
  lo : w3.heap.size ≤ bw
  fr : ∀ k, v.ownBlock = some k → w3.heap.size ≤ k
  ne : v.ownBlock ≠ some bw

theorem want_new {w3 w5 : World} {A5 : Option Addr} {n cap5 : Nat} {ms : List Int} {C : Array Value} (K : Keeps NoBlock w3 w5) (ho : Own w5 26 1 (.slice A5 n cap5) n (ms.map rv)) (hf : ∀ k, (Value.slice A5 n cap5).ownBlock = some k → w3.heap.size ≤ k) :
    Want w3 (w5.alloc (.cells C 29)) n w5.heap.size (.slice A5 n cap5) ms C :=
  ⟨K.alloc _, block_alloc_new _ _, World.ownsRow.alloc ho _, K.size, hf, fun e => by have := ho.lt _ e; omega⟩

theorem want_set {w3 w5 : World} {A5 : Option Addr} {n cap5 bw : Nat} {ms : List Int} {F P r0 r1 r2 r3 r4 r5 r6 r7 : Int} (K : Keeps NoBlock w3 w5) (ho : Own w5 26 1 (.slice A5 n cap5) n (ms.map rv)) (hf : ∀ k, (Value.slice A5 n cap5).ownBlock = some k → w3.heap.size ≤ k)
    (hlo : w3.heap.size ≤ bw) (hne : (Value.slice A5 n cap5).ownBlock ≠ some bw) (Z5 : w5.heap[bw]? = some (.cells #[.int .i64 0, .int .i64 0, .int .u64 0, .int .u64 0, .int .u64 0, .int .u64 0, .int .u64 0, .int .u64 0, .int .u64 0, .int .u64 0] 29 (0, 0))) :
    Want w3 ((((((((((w5.setCell ⟨bw, 0, none⟩ (.int .i64 F)).setCell ⟨bw, 1, none⟩ (.int .i64 P)).setCell ⟨bw, 2, none⟩ (.int .u64 r0)).setCell ⟨bw, 3, none⟩ (.int .u64 r1)).setCell ⟨bw, 4, none⟩ (.int .u64 r2)).setCell ⟨bw, 5, none⟩ (.int .u64 r3)).setCell ⟨bw, 6, none⟩ (.int .u64 r4)).setCell ⟨bw, 7, none⟩ (.int .u64 r5)).setCell ⟨bw, 8, none⟩ (.int .u64 r6)).setCell ⟨bw, 9, none⟩ (.int .u64 r7)) n bw (.slice A5 n cap5) ms #[.int .i64 F, .int .i64 P, .int .u64 r0, .int .u64 r1, .int .u64 r2, .int .u64 r3, .int .u64 r4, .int .u64 r5, .int .u64 r6, .int .u64 r7] := by
  have h : Want w3 (w5.setCells bw 0 [.int .i64 F, .int .i64 P, .int .u64 r0, .int .u64 r1, .int .u64 r2, .int .u64 r3, .int .u64 r4, .int .u64 r5, .int .u64 r6, .int .u64 r7]) n bw (.slice A5 n cap5) ms #[.int .i64 F, .int .i64 P, .int .u64 r0, .int .u64 r1, .int .u64 r2, .int .u64 r3, .int .u64 r4, .int .u64 r5, .int .u64 r6, .int .u64 r7] :=
    ⟨Keeps.setCells (.inr hlo) _ _ _ K, lay_all Z5 _ rfl, ho.keeps (S := fun k => k = bw) (Keeps.setCells (S := fun k => k = bw) (.inl rfl) _ _ _ (Keeps.refl _ _)) (fun k hk e => hne (by rw [hk, e])), hlo, hf, hne⟩
  exact h

theorem own_reads {w : World} {v : Value} {n : Nat} {ms : List Int} (hl : ms.length = n) (h : Own w 26 1 v n (ms.map rv)) : ReadsI .u64 w v ms := by
  subst hl
  exact Own.readsI h

theorem rv_one {ms : List Int} : ∀ u ∈ ms.map rv, u.oneCell' = true := by
  intro u hu
  rw [List.mem_map] at hu
  obtain ⟨x, _, rfl⟩ := hu
  rfl

theorem ms_news {w W W' : World} {b off : Nat} {ms : List Int} (hm : ∀ W, Keeps NoBlock w W → ∀ (j : Nat) (x : Int), ms[j]? = some x → W.cell? ⟨b, off + j, none⟩ = some (rv x)) (k : Keeps NoBlock w W) (k' : Keeps NoBlock W W') :
    ∀ j u, (ms.map rv)[j]? = some u → W'.cell? ⟨b, off + j, none⟩ = some u := by
  intro j u hj
  rw [List.getElem?_map] at hj
  cases hx : ms[j]? with
  | none => rw [hx] at hj; cases hj
  | some x =>
    rw [hx] at hj
    injection hj with hj
    subst hj
    exact hm W' (k.trans k' (fun _ _ h => h)) j x hx

set_option maxRecDepth 100000 in
set_option maxHeartbeats 4000000 in
theorem plains_set (F P r0 r1 r2 r3 r4 r5 r6 r7 a b1 c0 N P2 q0 q1 q2 q3 q4 q5 q6 q7 : Int) (A : Option Addr) (b off n c : Nat) (ms : List Int) (w : World) (k : Nat) (hk : k < 8) (ha : a = k)
    (hr : Hid (plainF ⟨F, P, [r0, r1, r2, r3, r4, r5, r6, r7]⟩ (1, a, b1, c0, N) ms = .ok (⟨F, P2, [q0, q1, q2, q3, q4, q5, q6, q7]⟩, ms)))
    (hP : IntKind.i64.wrap (P + 1) = P2) (hq : Hid ([r0, r1, r2, r3, r4, r5, r6, r7].set k N = [q0, q1, q2, q3, q4, q5, q6, q7])) (hn : n ≤ 200) (hml : Hid (ms.length = n))
    (hA : Hid (0 < n → A = some ⟨b, off, none⟩)) (hm : Hid (∀ W, Keeps NoBlock w W → ∀ (j : Nat) (x : Int), ms[j]? = some x → W.cell? ⟨b, off + j, none⟩ = some (rv x)))
    (hpl : Hid (∀ W, Keeps NoBlock w W → n ≤ 200 → Calls Try.prog 15 #[.agg #[.int .i64 F, .int .i64 P, .int .u64 r0, .int .u64 r1, .int .u64 r2, .int .u64 r3, .int .u64 r4, .int .u64 r5, .int .u64 r6, .int .u64 r7], .agg #[.int .i64 1, .int .i64 a, .int .i64 b1, .int .i64 c0, .int .u64 N], .slice A n c] W (PlainPost W (plainF ⟨F, P, [r0, r1, r2, r3, r4, r5, r6, r7]⟩ (1, a, b1, c0, N) ms)))) :
    Calls Try.prog 5 #[.agg #[.int .i64 F, .int .i64 P, .int .u64 r0, .int .u64 r1, .int .u64 r2, .int .u64 r3, .int .u64 r4, .int .u64 r5, .int .u64 r6, .int .u64 r7], .agg #[.int .i64 1, .int .i64 a, .int .i64 b1, .int .i64 c0, .int .u64 N], .slice A n c] w fun e w' => e = .returned (.bool true) ∧ Below w.heap.size w w' := by
  subst ha
  have Hka : Hid (okR (k : Int) = true) := by unfold Hid okR; rw [decide_eq_true_iff]; omega
  have hml2 := hml
  have hg : decide ((200 : Int) < (n : Int)) = false := by simp; omega
  go_enter Try.func5, Try.ntmps5
  go_wp2_with fail
  generalize hW : World.alloc (World.alloc w _) _ = W
  have Kw : Hid (Keeps NoBlock w W) := by
    show Keeps _ _ _
    rw [← hW]
    exact ((Keeps.refl NoBlock w).alloc _).alloc _
  have Bf : Hid (W.heap[w.heap.size]? = some (.cells #[.int .i64 F, .int .i64 P, .int .u64 r0, .int .u64 r1, .int .u64 r2, .int .u64 r3, .int .u64 r4, .int .u64 r5, .int .u64 r6, .int .u64 r7] 29 (0, 0))) := by show _ = _; rw [← hW]; exact block_alloc_old (block_alloc_new _ _)
  have Bi : Hid (W.heap[w.heap.size + 1]? = some (.cells #[.int .i64 1, .int .i64 k, .int .i64 b1, .int .i64 c0, .int .u64 N] 31 (0, 0))) := by show _ = _; rw [← hW]; exact blk_new (by simp)
  clear hW
  refine (hpl.out W Kw.out (by omega)).mono ?_
  clear hg
  rintro e w1 ⟨k1, hres⟩
  have Bf1 := Lib.hid ((k1.block _ (lt_of_block Bf.out) (fun h => h)).trans Bf.out)
  have Bi1 := Lib.hid ((k1.block _ (lt_of_block Bi.out) (fun h => h)).trans Bi.out)
  have K1 := Lib.hid (Kw.out.trans k1 (fun _ _ h => h))
  clear k1 hpl Kw Bf Bi
  rw [hr.out] at hres
  obtain ⟨g1, he, hg1, hb1⟩ := hres
  have hg1 := Lib.hid hg1
  have hb1 := Lib.hid hb1
  have he2 : e = .returned (.tuple #[.agg #[.int .i64 F, .int .i64 P2, .int .u64 q0, .int .u64 q1, .int .u64 q2, .int .u64 q3, .int .u64 q4, .int .u64 q5, .int .u64 q6, .int .u64 q7], .slice (some ⟨g1, 0, none⟩) n n, .int .i64 0]) := by rw [← hml2.out]; exact he
  subst he2
  clear he hr
  go_upto_region 4 with fail
  generalize hW : World.alloc w1 _ = W2
  have K2 : Hid (Keeps NoBlock w W2) := by show Keeps _ _ _; rw [← hW]; exact K1.out.alloc _
  have Bf2 : Hid (W2.heap[w.heap.size]? = some (.cells #[.int .i64 F, .int .i64 P, .int .u64 r0, .int .u64 r1, .int .u64 r2, .int .u64 r3, .int .u64 r4, .int .u64 r5, .int .u64 r6, .int .u64 r7] 29 (0, 0))) := by show _ = _; rw [← hW]; exact block_alloc_old Bf1.out
  have Bi2 : Hid (W2.heap[w.heap.size + 1]? = some (.cells #[.int .i64 1, .int .i64 k, .int .i64 b1, .int .i64 c0, .int .u64 N] 31 (0, 0))) := by show _ = _; rw [← hW]; exact block_alloc_old Bi1.out
  have Bg2 : Hid (W2.heap[w1.heap.size]? = some (.cells #[.int .i64 F, .int .i64 P2, .int .u64 q0, .int .u64 q1, .int .u64 q2, .int .u64 q3, .int .u64 q4, .int .u64 q5, .int .u64 q6, .int .u64 q7] 29 (0, 0))) := by show _ = _; rw [← hW]; exact block_alloc_new _ _
  have H2 : Hid (W2.heap[g1]? = some (.cells (mC ms) 26 (0, 0))) := by show _ = _; rw [← hW]; exact block_alloc_old hb1.out
  clear hW Bf1 Bi1 K1 hb1
  have i0 : W2.cell? ⟨w.heap.size + 1, 0, none⟩ = some (.int .i64 1) := cell_of_block (o := 0) Bi2.out rfl
  go_wp2_with fail
  refine (has_calls 1 _).mono ?_
  rintro e w3 ⟨rfl, k3⟩
  have Bf3 := Lib.hid ((k3.block _ (lt_of_block Bf2.out) (fun h => h)).trans Bf2.out)
  have Bi3 := Lib.hid ((k3.block _ (lt_of_block Bi2.out) (fun h => h)).trans Bi2.out)
  have Bg3 := Lib.hid ((k3.block _ (lt_of_block Bg2.out) (fun h => h)).trans Bg2.out)
  have H3 := Lib.hid ((k3.block _ (lt_of_block H2.out) (fun h => h)).trans H2.out)
  have K3 := Lib.hid (K2.out.trans k3 (fun _ _ h => h))
  clear k3 i0 Bf2 Bi2 Bg2 H2 K2
  have i0 : w3.cell? ⟨w.heap.size + 1, 0, none⟩ = some (.int .i64 1) := cell_of_block (o := 0) Bi3.out rfl
  have i1 : w3.cell? ⟨w.heap.size + 1, 1, none⟩ = some (.int .i64 k) := cell_of_block (o := 1) Bi3.out rfl
  have i2 : w3.cell? ⟨w.heap.size + 1, 2, none⟩ = some (.int .i64 b1) := cell_of_block (o := 2) Bi3.out rfl
  have i3 : w3.cell? ⟨w.heap.size + 1, 3, none⟩ = some (.int .i64 c0) := cell_of_block (o := 3) Bi3.out rfl
  have i4 : w3.cell? ⟨w.heap.size + 1, 4, none⟩ = some (.int .u64 N) := cell_of_block (o := 4) Bi3.out rfl
  have hs1 : str (hasS 1) = { data := #[65, 120] } := rfl
  rw [hs1]
  clear hs1
  go_wp2_with fail
  refine (lreg_calls k _).mono ?_
  rintro e w5 ⟨rfl, rfl⟩
  rw [Hka.out]
  go_upto_region 10 with fail
  have M3 : Hid (∀ W', Keeps NoBlock w3 W' → ∀ j u, (ms.map rv)[j]? = some u → W'.cell? ⟨b, off + j, none⟩ = some u) := fun W' k => ms_news hm.out K3.out k
  have nl : Hid ((ms.map rv).length = n * 1) := by show _ = _; rw [List.length_map, hml.out]; omega
  have x0 : w3.cell? ⟨w.heap.size, 0, none⟩ = some (.int .i64 F) := cell_of_block (o := 0) Bf3.out rfl
  have x1 : w3.cell? ⟨w.heap.size, 1, none⟩ = some (.int .i64 P) := cell_of_block (o := 1) Bf3.out rfl
  have x2 : w3.cell? ⟨w.heap.size, 2, none⟩ = some (.int .u64 r0) := cell_of_block (o := 2) Bf3.out rfl
  have x3 : w3.cell? ⟨w.heap.size, 3, none⟩ = some (.int .u64 r1) := cell_of_block (o := 3) Bf3.out rfl
  have x4 : w3.cell? ⟨w.heap.size, 4, none⟩ = some (.int .u64 r2) := cell_of_block (o := 4) Bf3.out rfl
  have x5 : w3.cell? ⟨w.heap.size, 5, none⟩ = some (.int .u64 r3) := cell_of_block (o := 5) Bf3.out rfl
  have x6 : w3.cell? ⟨w.heap.size, 6, none⟩ = some (.int .u64 r4) := cell_of_block (o := 6) Bf3.out rfl
  have x7 : w3.cell? ⟨w.heap.size, 7, none⟩ = some (.int .u64 r5) := cell_of_block (o := 7) Bf3.out rfl
  have x8 : w3.cell? ⟨w.heap.size, 8, none⟩ = some (.int .u64 r6) := cell_of_block (o := 8) Bf3.out rfl
  have x9 : w3.cell? ⟨w.heap.size, 9, none⟩ = some (.int .u64 r7) := cell_of_block (o := 9) Bf3.out rfl
  have lf := lt_of_block Bf3.out
  have hFB : Hid (∀ w', Keeps NoBlock w3 w' → w'.cell? ⟨w.heap.size, 0, none⟩ = some (.int .i64 F) ∧ w'.cell? ⟨w.heap.size, 1, none⟩ = some (.int .i64 P) ∧ w'.cell? ⟨w.heap.size, 2, none⟩ = some (.int .u64 r0) ∧ w'.cell? ⟨w.heap.size, 3, none⟩ = some (.int .u64 r1) ∧ w'.cell? ⟨w.heap.size, 4, none⟩ = some (.int .u64 r2) ∧ w'.cell? ⟨w.heap.size, 5, none⟩ = some (.int .u64 r3) ∧ w'.cell? ⟨w.heap.size, 6, none⟩ = some (.int .u64 r4) ∧ w'.cell? ⟨w.heap.size, 7, none⟩ = some (.int .u64 r5) ∧ w'.cell? ⟨w.heap.size, 8, none⟩ = some (.int .u64 r6) ∧ w'.cell? ⟨w.heap.size, 9, none⟩ = some (.int .u64 r7)) := fun w' k => ten_at ((k.block _ (lt_of_block Bf3.out) (fun h => h)).trans Bf3.out)
  clear i0 i1 i2 i3 i4
  go_cut [14, 15] from 100 to 103 (fun v14 v15 wx => ∃ bw A5 c5, v14 = .pointer (some ⟨bw, 0, none⟩) ∧ v15 = .slice A5 n c5 ∧ Want w3 wx n bw (.slice A5 n c5) ms #[.int .i64 F, .int .i64 P, .int .u64 r0, .int .u64 r1, .int .u64 r2, .int .u64 r3, .int .u64 r4, .int .u64 r5, .int .u64 r6, .int .u64 r7])
  case first =>
    go_region_held3 (fun w' => w'.cell? ⟨w.heap.size, 0, none⟩ = some (.int .i64 F) ∧ w'.cell? ⟨w.heap.size, 1, none⟩ = some (.int .i64 P) ∧ w'.cell? ⟨w.heap.size, 2, none⟩ = some (.int .u64 r0) ∧ w'.cell? ⟨w.heap.size, 3, none⟩ = some (.int .u64 r1) ∧ w'.cell? ⟨w.heap.size, 4, none⟩ = some (.int .u64 r2) ∧ w'.cell? ⟨w.heap.size, 5, none⟩ = some (.int .u64 r3) ∧ w'.cell? ⟨w.heap.size, 6, none⟩ = some (.int .u64 r4) ∧ w'.cell? ⟨w.heap.size, 7, none⟩ = some (.int .u64 r5) ∧ w'.cell? ⟨w.heap.size, 8, none⟩ = some (.int .u64 r6) ∧ w'.cell? ⟨w.heap.size, 9, none⟩ = some (.int .u64 r7)) (first | (refine hFB.out _ ?_; repeat (first | with_reducible exact K35 | with_reducible exact Keeps.refl _ _ | with_reducible refine Keeps.alloc ?_ _ | with_reducible refine Keeps.drew ?_ | (with_reducible refine Keeps.set ?_ (.inr ?_) _; rotate_left; focus (simp; done)) | (with_reducible refine Keeps.setCells (.inr ?_) _ _ _ ?_; focus (simp; done)))))
      (first
      | (refine step_appX (P := Try.prog) elW ?_ (.tmp 101) (.tmp 102) ?_ (.slice (some ⟨w3.heap.size, 0, none⟩) 0 0) 0 [] ?_ ?_ A b off n c (ms.map rv) ?_ ?_ ?_ ?_ rv_one ?_ ?_ ?_
         · rfl
         · rfl
         · rfl
         · repeat (first | with_reducible exact own_new _ (by simp) | with_reducible refine World.ownsRow.alloc ?_ _ | with_reducible refine World.ownsRow.drew ?_ | (refine own_setCells ?_ ?_; rotate_left; focus (simp [Value.ownBlock]; omega)))
         · rfl
         · exact hA.out
         · exact nl.out
         · refine M3.out _ ?_
           repeat (first | with_reducible exact Keeps.refl _ _ | with_reducible refine Keeps.alloc ?_ _ | with_reducible refine Keeps.drew ?_ | (refine Keeps.setCells (.inr ?_) _ _ _ ?_; focus (simp; done)))
         · simp only [maxLen]; omega
         · omega
         intro v5 w5 ho5 hg5 hf5 hs5
         obtain ⟨A5, cap5, rfl⟩ := Own.isSlice ho5
         have K35 : Keeps NoBlock w3 w5 := by
           refine Keeps.grown ?_ hg5 ?_
           · repeat (first | with_reducible exact Keeps.refl _ _ | with_reducible refine Keeps.alloc ?_ _ | with_reducible refine Keeps.drew ?_ | (refine Keeps.setCells (.inr ?_) _ _ _ ?_; focus (simp; done)))
           · intro k hk
             right
             simp only [Value.ownBlock, Option.some.injEq] at hk
             omega
         have F5 := hFB.out w5 K35
         have Z5 : w5.heap[w3.heap.size + 1]? = some (.cells #[.int .i64 0, .int .i64 0, .int .u64 0, .int .u64 0, .int .u64 0, .int .u64 0, .int .u64 0, .int .u64 0, .int .u64 0, .int .u64 0] 29 (0, 0)) := by
           refine blk_grown hg5 ?_ ?_
           · simp [Value.ownBlock]
           · first | exact block_alloc_new _ _ | (refine block_alloc_old ?_; exact block_alloc_new _ _) | (refine blk_new ?_; simp; done) | (refine block_alloc_old ?_; refine blk_drew ?_; exact block_alloc_new _ _)
         obtain ⟨f0, f1, f2, f3, f4, f5, f6, f7, f8, f9⟩ := ten_frozen Z5
         have lz := lt_of_block Z5
         obtain ⟨y0, y1, y2, y3, y4, y5, y6, y7, y8, y9⟩ := ten_at Z5
         clear F5
         clear hs5)
      | (refine step_appX (P := Try.prog) elW ?_ (.tmp 101) (.tmp 102) ?_ (.slice (some ⟨w3.heap.size + 1, 0, none⟩) 0 0) 0 [] ?_ ?_ A b off n c (ms.map rv) ?_ ?_ ?_ ?_ rv_one ?_ ?_ ?_
         · rfl
         · rfl
         · rfl
         · repeat (first | with_reducible exact own_new _ (by simp) | with_reducible refine World.ownsRow.alloc ?_ _ | with_reducible refine World.ownsRow.drew ?_ | (refine own_setCells ?_ ?_; rotate_left; focus (simp [Value.ownBlock]; omega)))
         · rfl
         · exact hA.out
         · exact nl.out
         · refine M3.out _ ?_
           repeat (first | with_reducible exact Keeps.refl _ _ | with_reducible refine Keeps.alloc ?_ _ | with_reducible refine Keeps.drew ?_ | (refine Keeps.setCells (.inr ?_) _ _ _ ?_; focus (simp; done)))
         · simp only [maxLen]; omega
         · omega
         intro v5 w5 ho5 hg5 hf5 hs5
         obtain ⟨A5, cap5, rfl⟩ := Own.isSlice ho5
         have K35 : Keeps NoBlock w3 w5 := by
           refine Keeps.grown ?_ hg5 ?_
           · repeat (first | with_reducible exact Keeps.refl _ _ | with_reducible refine Keeps.alloc ?_ _ | with_reducible refine Keeps.drew ?_ | (refine Keeps.setCells (.inr ?_) _ _ _ ?_; focus (simp; done)))
           · intro k hk
             right
             simp only [Value.ownBlock, Option.some.injEq] at hk
             omega
         have F5 := hFB.out w5 K35
         have Z5 : w5.heap[w3.heap.size]? = some (.cells #[.int .i64 0, .int .i64 0, .int .u64 0, .int .u64 0, .int .u64 0, .int .u64 0, .int .u64 0, .int .u64 0, .int .u64 0, .int .u64 0] 29 (0, 0)) := by
           refine blk_grown hg5 ?_ ?_
           · simp [Value.ownBlock]
           · first | exact block_alloc_new _ _ | (refine block_alloc_old ?_; exact block_alloc_new _ _) | (refine blk_new ?_; simp; done) | (refine block_alloc_old ?_; refine blk_drew ?_; exact block_alloc_new _ _)
         obtain ⟨f0, f1, f2, f3, f4, f5, f6, f7, f8, f9⟩ := ten_frozen Z5
         have lz := lt_of_block Z5
         obtain ⟨y0, y1, y2, y3, y4, y5, y6, y7, y8, y9⟩ := ten_at Z5
         clear F5
         clear hs5)
      | (refine step_appX (P := Try.prog) elW ?_ (.tmp 101) (.tmp 102) ?_ (.slice (some ⟨w3.heap.size, 0, none⟩) 0 0) 0 [] ?_ ?_ A b off n c (ms.map rv) ?_ ?_ ?_ ?_ rv_one ?_ ?_ ?_
         · rfl
         · rfl
         · rfl
         · repeat (first | with_reducible exact own_new _ (by simp) | with_reducible refine World.ownsRow.alloc ?_ _ | with_reducible refine World.ownsRow.drew ?_ | (refine own_setCells ?_ ?_; rotate_left; focus (simp [Value.ownBlock]; omega)))
         · rfl
         · exact hA.out
         · exact nl.out
         · refine M3.out _ ?_
           repeat (first | with_reducible exact Keeps.refl _ _ | with_reducible refine Keeps.alloc ?_ _ | with_reducible refine Keeps.drew ?_ | (refine Keeps.setCells (.inr ?_) _ _ _ ?_; focus (simp; done)))
         · simp only [maxLen]; omega
         · omega
         intro v5 w5 ho5 hg5 hf5 hs5
         obtain ⟨A5, cap5, rfl⟩ := Own.isSlice ho5
         have K35 : Keeps NoBlock w3 w5 := by
           refine Keeps.grown ?_ hg5 ?_
           · repeat (first | with_reducible exact Keeps.refl _ _ | with_reducible refine Keeps.alloc ?_ _ | with_reducible refine Keeps.drew ?_ | (refine Keeps.setCells (.inr ?_) _ _ _ ?_; focus (simp; done)))
           · intro k hk
             right
             simp only [Value.ownBlock, Option.some.injEq] at hk
             omega
         have F5 := hFB.out w5 K35
         clear hs5)
      | (refine step_appX (P := Try.prog) elW ?_ (.tmp 101) (.tmp 102) ?_ (.slice (some ⟨w3.heap.size + 1, 0, none⟩) 0 0) 0 [] ?_ ?_ A b off n c (ms.map rv) ?_ ?_ ?_ ?_ rv_one ?_ ?_ ?_
         · rfl
         · rfl
         · rfl
         · repeat (first | with_reducible exact own_new _ (by simp) | with_reducible refine World.ownsRow.alloc ?_ _ | with_reducible refine World.ownsRow.drew ?_ | (refine own_setCells ?_ ?_; rotate_left; focus (simp [Value.ownBlock]; omega)))
         · rfl
         · exact hA.out
         · exact nl.out
         · refine M3.out _ ?_
           repeat (first | with_reducible exact Keeps.refl _ _ | with_reducible refine Keeps.alloc ?_ _ | with_reducible refine Keeps.drew ?_ | (refine Keeps.setCells (.inr ?_) _ _ _ ?_; focus (simp; done)))
         · simp only [maxLen]; omega
         · omega
         intro v5 w5 ho5 hg5 hf5 hs5
         obtain ⟨A5, cap5, rfl⟩ := Own.isSlice ho5
         have K35 : Keeps NoBlock w3 w5 := by
           refine Keeps.grown ?_ hg5 ?_
           · repeat (first | with_reducible exact Keeps.refl _ _ | with_reducible refine Keeps.alloc ?_ _ | with_reducible refine Keeps.drew ?_ | (refine Keeps.setCells (.inr ?_) _ _ _ ?_; focus (simp; done)))
           · intro k hk
             right
             simp only [Value.ownBlock, Option.some.injEq] at hk
             omega
         have F5 := hFB.out w5 K35
         clear hs5)
      | (trace_state; fail))
    all_goals go_wp2_with fail
    all_goals go_meet
    all_goals refine ⟨_, _, _, rfl, rfl, ?_⟩
    all_goals
      have hof : Own w5 26 1 (.slice A5 n cap5) n (ms.map rv) := by simpa using ho5
      have hob : (Value.slice A5 (0 + n) cap5).ownBlock = (Value.slice A5 n cap5).ownBlock := by cases A5 <;> rfl
      rw [hob] at hf5
      simp only [World.size_alloc, World.size_drew, Value.ownBlock, Option.some.injEq] at hf5
      have hok : ∀ k, (Value.slice A5 n cap5).ownBlock = some k → w3.heap.size ≤ k := fun k hk => by have := hf5 k hk; omega
      first
      | (with_reducible refine want_new ?_ ?_ ?_; exact K35; exact hof; exact hok)
      | (with_reducible refine want_set ?_ ?_ ?_ ?_ ?_ ?_
         · exact K35
         · exact hof
         · exact hok
         · omega
         · intro e
           have := hf5 _ e
           omega
         · exact Z5)
  case rest =>
    obtain ⟨bw, A5, c5, rfl, rfl, WT⟩ := hcut
    clear M3 nl hFB lf x0 x1 x2 x3 x4 x5 x6 x7 x8 x9
    have Hlo := Lib.hid WT.lo
    have x1 : wc.cell? ⟨w.heap.size, 1, none⟩ = some (.int .i64 P) := (WT.kp.cell (lt_of_block Bf3.out) (fun h => h)).trans (cell_of_block (o := 1) Bf3.out rfl)
    have i0 : wc.cell? ⟨w.heap.size + 1, 0, none⟩ = some (.int .i64 1) := (WT.kp.cell (lt_of_block Bi3.out) (fun h => h)).trans (cell_of_block (o := 0) Bi3.out rfl)
    have i1 : wc.cell? ⟨w.heap.size + 1, 1, none⟩ = some (.int .i64 k) := (WT.kp.cell (lt_of_block Bi3.out) (fun h => h)).trans (cell_of_block (o := 1) Bi3.out rfl)
    have i4 : wc.cell? ⟨w.heap.size + 1, 4, none⟩ = some (.int .u64 N) := (WT.kp.cell (lt_of_block Bi3.out) (fun h => h)).trans (cell_of_block (o := 4) Bi3.out rfl)
    have y1 : wc.cell? ⟨bw, 1, none⟩ = some (.int .i64 P) := cell_of_block (o := 1) WT.bl rfl
    obtain ⟨x, hx⟩ : ∃ x, [r0, r1, r2, r3, r4, r5, r6, r7][k]? = some x := ⟨_, List.getElem?_eq_getElem hk⟩
    have yk := eight_cells WT.bl hx
    have f1 := frozen_of_block WT.bl (o := 1)
    have fk := frozen_of_block WT.bl (o := 2 + k)
    have hb1 : bw ≠ w.heap.size + 1 := by have := lt_of_block Bi3.out; have := WT.lo; omega
    have hb2 : w.heap.size + 1 ≠ bw := by omega
    have hk0 : (0 : Int) ≤ (k : Int) := by omega
    have hk8 : (k : Int) < 8 := by omega
    have HWT := Lib.hid WT
    clear WT hx
    go_upto_region 32 with fail
    generalize hW : World.setCell (World.setCell wc _ _) _ _ = W7
    clear x1 i0 i1 i4 y1 yk f1 fk hb1 hb2 hk0 hk8
    have bl := HWT.out.bl
    have K7 : Hid (Keeps NoBlock w3 W7) := by
      show Keeps _ _ _
      rw [← hW]
      exact (HWT.out.kp.set (.inr Hlo.out) _).set (.inr Hlo.out) _
    have Bw7 : Hid (W7.heap[bw]? = some (.cells #[.int .i64 F, .int .i64 P2, .int .u64 q0, .int .u64 q1, .int .u64 q2, .int .u64 q3, .int .u64 q4, .int .u64 q5, .int .u64 q6, .int .u64 q7] 29 (0, 0))) := by
      show _ = _
      rw [← hW, ← ten_set (F := F) (P := P2) hk hq.out]
      exact block_set (block_set bl _) _
    have R7 : Hid (ReadsI .u64 W7 (.slice A5 n c5) ms) := by
      show ReadsI _ _ _ _
      rw [← hW]
      exact own_reads hml.out (own_set1 (own_set1 HWT.out.own HWT.out.ne) HWT.out.ne)
    clear hW bl HWT
    have Bg7 := Lib.hid ((K7.out.block _ (lt_of_block Bg3.out) (fun h => h)).trans Bg3.out)
    have H7 := Lib.hid ((K7.out.block _ (lt_of_block H3.out) (fun h => h)).trans H3.out)
    clear H3 Bg3 Bf3 Bi3
    have K07 := Lib.hid (K3.out.trans K7.out (fun _ _ h => h))
    go_wp2_with fail
    refine (awake03_calls _).mono ?_
    rintro e w8 ⟨rfl, k8⟩
    have Bg8 := (k8.block _ (lt_of_block Bg7.out) (fun h => h)).trans Bg7.out
    have Bw8 := (k8.block _ (lt_of_block Bw7.out) (fun h => h)).trans Bw7.out
    have H8 := Lib.hid ((k8.block _ (lt_of_block H7.out) (fun h => h)).trans H7.out)
    have R8 := Lib.hid (R7.out.keeps k8 (fun _ _ h => h))
    have K08 := Lib.hid (K07.out.trans k8 (fun _ _ h => h))
    have x0 : w8.cell? ⟨w1.heap.size, 0, none⟩ = some (.int .i64 F) := cell_of_block (o := 0) Bg8 rfl
    have x1 : w8.cell? ⟨w1.heap.size, 1, none⟩ = some (.int .i64 P2) := cell_of_block (o := 1) Bg8 rfl
    have x2 : w8.cell? ⟨w1.heap.size, 2, none⟩ = some (.int .u64 q0) := cell_of_block (o := 2) Bg8 rfl
    have x3 : w8.cell? ⟨w1.heap.size, 3, none⟩ = some (.int .u64 q1) := cell_of_block (o := 3) Bg8 rfl
    have x4 : w8.cell? ⟨w1.heap.size, 4, none⟩ = some (.int .u64 q2) := cell_of_block (o := 4) Bg8 rfl
    have x5 : w8.cell? ⟨w1.heap.size, 5, none⟩ = some (.int .u64 q3) := cell_of_block (o := 5) Bg8 rfl
    have x6 : w8.cell? ⟨w1.heap.size, 6, none⟩ = some (.int .u64 q4) := cell_of_block (o := 6) Bg8 rfl
    have x7 : w8.cell? ⟨w1.heap.size, 7, none⟩ = some (.int .u64 q5) := cell_of_block (o := 7) Bg8 rfl
    have x8 : w8.cell? ⟨w1.heap.size, 8, none⟩ = some (.int .u64 q6) := cell_of_block (o := 8) Bg8 rfl
    have x9 : w8.cell? ⟨w1.heap.size, 9, none⟩ = some (.int .u64 q7) := cell_of_block (o := 9) Bg8 rfl
    have y0 : w8.cell? ⟨bw, 0, none⟩ = some (.int .i64 F) := cell_of_block (o := 0) Bw8 rfl
    have y1 : w8.cell? ⟨bw, 1, none⟩ = some (.int .i64 P2) := cell_of_block (o := 1) Bw8 rfl
    have y2 : w8.cell? ⟨bw, 2, none⟩ = some (.int .u64 q0) := cell_of_block (o := 2) Bw8 rfl
    have y3 : w8.cell? ⟨bw, 3, none⟩ = some (.int .u64 q1) := cell_of_block (o := 3) Bw8 rfl
    have y4 : w8.cell? ⟨bw, 4, none⟩ = some (.int .u64 q2) := cell_of_block (o := 4) Bw8 rfl
    have y5 : w8.cell? ⟨bw, 5, none⟩ = some (.int .u64 q3) := cell_of_block (o := 5) Bw8 rfl
    have y6 : w8.cell? ⟨bw, 6, none⟩ = some (.int .u64 q4) := cell_of_block (o := 6) Bw8 rfl
    have y7 : w8.cell? ⟨bw, 7, none⟩ = some (.int .u64 q5) := cell_of_block (o := 7) Bw8 rfl
    have y8 : w8.cell? ⟨bw, 8, none⟩ = some (.int .u64 q6) := cell_of_block (o := 8) Bw8 rfl
    have y9 : w8.cell? ⟨bw, 9, none⟩ = some (.int .u64 q7) := cell_of_block (o := 9) Bw8 rfl
    clear Bg8 Bw8 k8
    have heq := fun w => equalFrm F P2 q0 q1 q2 q3 q4 q5 q6 q7 w
    have hgf := guardFrm
    go_wp2_with fail
    refine (words_calls _ _ ms ms _ (reads_cells hml2.out H8.out) R8.out (by have := hml2.out; omega) (by have := hml2.out; omega)).mono ?_
    rintro e w9 ⟨rfl, k9⟩
    rw [decide_eq_true rfl]
    go_wp2_with fail
    go_ret
    exact ⟨rfl, (K08.out.trans k9 (fun _ _ h => h)).below (Nat.le_refl _) (fun _ h => h.elim)⟩

end Fr
end Go.Proofs.Ytlnoejmckpimnaa
