/- Package disk: what its calls come to. -/
import Derived.Test.YtgepedfipfobjaaDiskC
import Derived.Lib.MinMax
import Derived.StillTailTactics
import Derived.Deep.DeepCutAuto
import Derived.Deep.CutBlock
import Derived.Deep.RegionWith
import Derived.RegionTactic
import Derived.Deep.RegionHeld3
import Derived.Deep.QuietTactic
import Derived.BigQuiet
namespace Go.Proofs.Ytgepedfipfobjaa
open Go.RowKit

theorem elWords : Elem Try.prog 25 27 (.int .u64 0) 1 8 := .mk' Try.underlying25 (by kernel_rfl) rfl (by decide)

structure DiskIn (F : Nat → Prop) (w : World) (d bb : Nat) (A : Option Addr) (cap : Nat) (bs : List Int) (ws : List Req) : Prop where
  head : w.heap[d]? = some (.cells #[.slice (some ⟨bb, 0, none⟩) bs.length bs.length, .slice A ws.length cap] 65 (0, 0))
  blocks : Own w 27 1 (.slice (some ⟨bb, 0, none⟩) bs.length bs.length) bs.length (bs.map (.int .u64))
  wait : Own w 29 4 (.slice A ws.length cap) ws.length (ws.flatMap encR)
  ne : d ≠ bb
  nd : ∀ k, (Value.slice A ws.length cap).ownBlock = some k → k ≠ d ∧ k ≠ bb ∧ F k
  foot : F d ∧ F bb
  lenb : bs.length ≤ 64
  lenw : ws.length ≤ 1000
  ok : ∀ r ∈ ws, 0 ≤ r.block ∧ r.block < bs.length
  flt : ∀ k, F k → k < w.heap.size

/-- A disk at d, in blocks of F: what its blocks have, and the requests that wait. -/
def DiskAt (F : Nat → Prop) (w : World) (d : Nat) (bs : List Int) (ws : List Req) : Prop := ∃ (bb : Nat) (A : Option Addr) (cap : Nat), DiskIn F w d bb A cap bs ws

theorem DiskIn.keeps {F S : Nat → Prop} {w w' : World} {d bb : Nat} {A : Option Addr} {cap : Nat} {bs : List Int} {ws : List Req} (h : DiskIn F w d bb A cap bs ws) (k : Keeps S w w') (hS : ∀ j, F j → ¬ S j) : DiskIn F w' d bb A cap bs ws :=
  ⟨by rw [k.block d (lt_of_block h.head) (hS _ h.foot.1)]; exact h.head, h.blocks.keeps k (fun b hb => by simp [Value.ownBlock] at hb; subst hb; exact hS _ h.foot.2), h.wait.keeps k (fun b hb => hS _ (h.nd b hb).2.2), h.ne, h.nd, h.foot, h.lenb, h.lenw, h.ok, fun j hj => Nat.lt_of_lt_of_le (h.flt j hj) k.size⟩

theorem DiskAt.keeps {F S : Nat → Prop} {w w' : World} {d : Nat} {bs : List Int} {ws : List Req} (h : DiskAt F w d bs ws) (k : Keeps S w w') (hS : ∀ j, F j → ¬ S j) : DiskAt F w' d bs ws := by
  obtain ⟨bb, A, cap, h⟩ := h
  exact ⟨bb, A, cap, h.keeps k hS⟩

theorem DiskAt.flt {F : Nat → Prop} {w : World} {d : Nat} {bs : List Int} {ws : List Req} (h : DiskAt F w d bs ws) : ∀ k, F k → k < w.heap.size := by
  obtain ⟨_, _, _, h⟩ := h
  exact h.flt

theorem DiskIn.lt {F : Nat → Prop} {w : World} {d bb : Nat} {A : Option Addr} {cap : Nat} {bs : List Int} {ws : List Req} (h : DiskIn F w d bb A cap bs ws) : d < w.heap.size ∧ bb < w.heap.size := ⟨lt_of_block h.head, h.blocks.lt bb rfl⟩

def NewPost (w : World) (n : Nat) (e : Ending) (w' : World) : Prop :=
  ∃ (d : Nat) (F : Nat → Prop), e = .returned (.pointer (some ⟨d, 0, none⟩)) ∧ DiskAt F w' d (List.replicate n 0) [] ∧ (∀ k, F k → w.heap.size ≤ k) ∧ Keeps NoBlock w w'

def newLen (n : Int) : Nat := (min (max n 0) 64).toNat

theorem new_calls (n : Int) (w : World) : Calls Try.prog 9 #[.int .i64 n] w (NewPost w (newLen n)) := by
  obtain ⟨m, hm⟩ : ∃ m : Nat, min (max n 0) 64 = (m : Int) := ⟨newLen n, by unfold newLen; omega⟩
  have hm2 : newLen n = m := by unfold newLen; omega
  have hm64 : m ≤ 64 := by omega
  have key : NewPost w (newLen n) (.returned (.pointer (some ⟨w.heap.size + 1, 0, none⟩))) ((w.alloc (.cells (madeCells #[.int .u64 0] m) 27)).alloc (.cells #[.slice (some ⟨w.heap.size, 0, none⟩) m m, .slice none 0 0] 65)) := by
    rw [hm2]
    refine ⟨w.heap.size + 1, fun k => w.heap.size ≤ k ∧ k < w.heap.size + 2, rfl, ⟨w.heap.size, none, 0, ?_, ?_, World.ownsRow_nil _ _ _ _, by omega, fun k hk => by simp [Value.ownBlock] at hk, ⟨⟨by omega, by omega⟩, ⟨Nat.le_refl _, by omega⟩⟩, by simpa using hm64, by simp, (fun r hr => by simp at hr), fun k hk => by have := hk.2; simp; omega⟩, fun _ h => h.1, ((Keeps.refl _ w).alloc _).alloc _⟩
    · rw [blk_new (by simp)]; simp
    · have ho := own_made (w := w) (e := 27) (.int .u64 0) m (by omega) rfl
      rw [List.length_replicate, List.map_replicate]
      exact World.ownsRow.alloc ho _
  have Key := Lib.hid key
  have hmk := run_mk elWords m (by omega) (by decide)
  clear key hm2
  go_enter Try.func9, Try.ntmps9
  go_wp2
  go_ret
  exact Key.out

theorem rest_calls (k : Int) (n ix : Nat) (hn : 0 < n) (hl : n ≤ 1000) (h : k % (n : Int) = ix) (w : World) :
    Calls Try.prog 27 #[.int .i64 k, .int .i64 n] w fun e w' => e = .returned (.int .i64 ix) ∧ w = w' := by
  have hb := Int.tmod_lt_of_pos k (b := (n : Int)) (by omega)
  have hb' := Int.lt_tmod_of_pos k (b := (n : Int)) (by omega)
  have hm : (k.tmod n + n).tmod n = ix := by
    rw [Int.tmod_eq_emod_of_nonneg (by omega), Int.add_emod_right, ← h, Int.tmod_eq_emod]
    split
    · simp
    · rw [Int.sub_emod]; simp
  obtain ⟨q, hq⟩ : ∃ q, k.tmod n = q := ⟨_, rfl⟩
  rw [hq] at hb hb'
  have hm' : (q + n).tmod n = ix := by rw [← hq]; exact hm
  have hne : ((n : Int) == 0) = false := by simp; omega
  have hlt : -1000 < q ∧ q < 1000 := by omega
  clear h hm
  go_enter Try.func27, Try.ntmps27
  go_wp2
  go_ret
  exact ⟨rfl, rfl⟩

/-! What is done. -/
theorem flat_erase {α : Type} (f : α → List Value) (s : Nat) (hf : ∀ x, (f x).length = s) : ∀ (l : List α) (i : Nat), (l.flatMap f).take (i * s) ++ (l.flatMap f).drop ((i + 1) * s) = (l.eraseIdx i).flatMap f
  | [], i => by simp
  | a :: l, 0 => by
    have := hf a
    simp only [Nat.zero_mul, List.take_zero, List.nil_append, Nat.zero_add, Nat.one_mul, List.flatMap_cons, List.eraseIdx_cons_zero]
    rw [← this, List.drop_left]
  | a :: l, i + 1 => by
    have ha := hf a
    have e1 : (i + 1) * s = (f a).length + i * s := by rw [ha, Nat.add_mul]; omega
    have e2 : (i + 1 + 1) * s = (f a).length + (i + 1) * s := by rw [ha, Nat.add_mul (i + 1)]; omega
    rw [List.flatMap_cons, e2, e1, List.take_length_add_append, List.drop_length_add_append, ← e1, List.eraseIdx_cons_succ, List.flatMap_cons, List.append_assoc, flat_erase f s hf l i]

theorem DiskIn.reqCell {F : Nat → Prop} {w : World} {d bb g cap : Nat} {bs : List Int} {ws : List Req} (h : DiskIn F w d bb (some ⟨g, 0, none⟩) cap bs ws) {ix : Nat} {r : Req} (hr : ws[ix]? = some r) :
    w.cell? ⟨g, ix * 4, none⟩ = some (.int .i64 r.who) ∧ w.cell? ⟨g, ix * 4 + 1, none⟩ = some (.int .i64 r.block) ∧ w.cell? ⟨g, ix * 4 + 2, none⟩ = some (.bool r.write) ∧ w.cell? ⟨g, ix * 4 + 3, none⟩ = some (.int .u64 r.x) := by
  have hlt : ix < ws.length := (List.getElem?_eq_some_iff.1 hr).1
  have key : ∀ (j : Nat) (u : Value), (encR r)[j]? = some u → w.cell? ⟨g, ix * 4 + j, none⟩ = some u := by
    intro j u hu
    have hj : j < 4 := (List.getElem?_eq_some_iff.1 hu).1
    rw [World.ownsRow.cellAt h.wait (ix * 4 + j) (lt_mul hlt hj)]
    exact flat_get' encR 4 encR_len ws ix j r u hr hu
  exact ⟨key 0 _ rfl, key 1 _ rfl, key 2 _ rfl, key 3 _ rfl⟩

def done1 (bs : List Int) (r : Req) : List Int := if r.write then bs.set r.block.toNat r.x else bs
def got1 (bs : List Int) (r : Req) : Int := if r.write then 0 else bs.getD r.block.toNat 0

def DonePost (F : Nat → Prop) (w : World) (d : Nat) (bs : List Int) (ws : List Req) (ix : Nat) (r : Req) (e : Ending) (w' : World) : Prop :=
  e = .returned (.tuple #[.agg #[.int .i64 r.who, .int .i64 r.block, .bool r.write, .int .u64 r.x], .int .u64 (got1 bs r), .bool true]) ∧ DiskAt F w' d (done1 bs r) (ws.eraseIdx ix) ∧ Keeps F w w'

theorem done_none {F : Nat → Prop} (d : Nat) (bs : List Int) (k : Int) (w : World) (h : DiskAt F w d bs []) :
    Calls Try.prog 10 #[.pointer (some ⟨d, 0, none⟩), .int .i64 k] w fun e w' => e = .returned (.tuple #[.agg #[.int .i64 0, .int .i64 0, .bool false, .int .u64 0], .int .u64 0, .bool false]) ∧ Keeps NoBlock w w' := by
  obtain ⟨bb, A, cap, h⟩ := h
  have hc := cell_of_block h.head (o := 1) rfl
  have hlt := h.lt
  have hne : d ≠ w.heap.size := by omega
  clear h
  go_enter Try.func10, Try.ntmps10
  go_wp2
  exact bodyPost_ret (v := .tuple #[.agg #[.int .i64 0, .int .i64 0, .bool false, .int .u64 0], .int .u64 0, .bool false]) (by simp [results, Try.results10, go_sem]) rfl ⟨rfl, by repeat (first | exact Keeps.refl _ _ | with_reducible refine Keeps.alloc ?_ _ | with_reducible refine Keeps.setCell ?_ (.inr (Nat.le_refl _)) _)⟩

theorem done_nil (k : Int) (w : World) :
    Calls Try.prog 10 #[.pointer none, .int .i64 k] w fun e w' => e = .returned (.tuple #[.agg #[.int .i64 0, .int .i64 0, .bool false, .int .u64 0], .int .u64 0, .bool false]) ∧ Keeps NoBlock w w' := by
  go_enter Try.func10, Try.ntmps10
  go_wp2
  exact bodyPost_ret (v := .tuple #[.agg #[.int .i64 0, .int .i64 0, .bool false, .int .u64 0], .int .u64 0, .bool false]) (by simp [results, Try.results10, go_sem]) rfl ⟨rfl, by repeat (first | exact Keeps.refl _ _ | with_reducible refine Keeps.alloc ?_ _ | with_reducible refine Keeps.setCell ?_ (.inr (Nat.le_refl _)) _)⟩


set_option maxHeartbeats 4000000 in
set_option maxRecDepth 100000 in
theorem done_calls {F : Nat → Prop} (d : Nat) (bs : List Int) (ws : List Req) (k : Int) (ix : Nat) (r : Req) (w : World) (h : DiskAt F w d bs ws) (hk : k % (ws.length : Int) = ix) (hr : ws[ix]? = some r) :
    Calls Try.prog 10 #[.pointer (some ⟨d, 0, none⟩), .int .i64 k] w (DonePost F w d bs ws ix r) := by
  obtain ⟨bb, A, cap, h⟩ := h
  have hil : ix < ws.length := (List.getElem?_eq_some_iff.1 hr).1
  obtain ⟨g, rfl, hg, hnc, hcm⟩ : ∃ g, A = some ⟨g, 0, none⟩ ∧ g < w.heap.size ∧ ws.length ≤ cap ∧ cap ≤ maxLen := by
    rcases h.wait.form with ⟨_, h0⟩ | ⟨g, c, h1, h2, h3, h4⟩
    · omega
    · cases h1; exact ⟨g, rfl, h2, h3, h4⟩
  have hc := cell_of_block h.head (o := 1) rfl
  have ⟨hlt1, hlt2⟩ := h.lt
  have hlw := h.lenw
  have hcells := h.reqCell hr
  have hrb := h.ok r (List.mem_of_getElem? hr)
  have hn0 : ((ws.length : Int) == 0) = false := beq_eq_false_iff_ne.2 (by omega)
  obtain ⟨n, hn⟩ : ∃ n, Hid (ws.length = n) := ⟨_, rfl⟩
  have HK := Lib.hid hk
  rw [hn.out] at hil hnc hc hlw hn0 HK
  have Hh := Lib.hid h
  have Hr := Lib.hid hr
  clear h hk hr
  go_enter Try.func10, Try.ntmps10
  go_wp2_with fail
  refine (rest_calls k n ix (by omega) (by omega) HK.out _).mono ?_
  rintro e w' ⟨rfl, rfl⟩
  go_wp2_with fail
  have hwait2 := World.ownsRow.alloc (World.ownsRow.alloc Hh.out.wait (.cells #[.int .i64 0, .int .i64 0, .bool false, .int .u64 0] 29)) (.cells #[.int .i64 r.who, .int .i64 r.block, .bool r.write, .int .u64 r.x] 29)
  rw [hn.out] at hwait2
  refine (delete_calls g n cap ix _ hil hnc hcm _ hwait2 (encR_one _)).mono ?_
  rintro e w1 ⟨rfl, ho1, hk1⟩
  have hsz := hk1.size
  simp only [World.size_alloc] at hsz
  have hnd := Hh.out.nd g rfl
  have hd1 : w1.heap[d]? = some (.cells #[.slice (some ⟨bb, 0, none⟩) bs.length bs.length, .slice (some ⟨g, 0, none⟩) n cap] 65 (0, 0)) := by
    rw [hk1.block d (by simp; omega) (fun h => hnd.1 h.symm), ← hn.out]
    exact block_alloc_old (block_alloc_old Hh.out.head)
  have hc1 := cell_of_block hd1 (o := 1) rfl
  have hf1 := frozen_of_block (o := 1) hd1
  have hr0 : w1.heap[w.heap.size]? = some (.cells #[.int .i64 0, .int .i64 0, .bool false, .int .u64 0] 29 (0, 0)) := by
    rw [hk1.block _ (by simp; omega) (fun h => by omega)]
    exact block_alloc_old (block_alloc_new _ _)
  have hr1 : w1.heap[w.heap.size + 1]? = some (.cells #[.int .i64 r.who, .int .i64 r.block, .bool r.write, .int .u64 r.x] 29 (0, 0)) := by
    rw [hk1.block _ (by simp) (fun h => by omega)]
    exact blk_new (by simp)
  have q0 := cell_of_block hr1 (o := 0) rfl
  have q1 := cell_of_block hr1 (o := 1) rfl
  have q2 := cell_of_block hr1 (o := 2) rfl
  have q3 := cell_of_block hr1 (o := 3) rfl
  have Hd1 := Lib.hid hd1
  have Hr0 := Lib.hid hr0
  have Hr1 := Lib.hid hr1
  have Ho1 := Lib.hid ho1
  have Hk1 := Lib.hid hk1
  clear hd1 hr0 hr1 ho1 hk1 hwait2
  obtain ⟨bl, hbl⟩ : ∃ bl : Nat, r.block = bl := ⟨r.block.toNat, by omega⟩
  have hbll : bl < bs.length := by omega
  obtain ⟨y, hy⟩ : ∃ y, bs[bl]? = some y := ⟨_, List.getElem?_eq_getElem hbll⟩
  have hlb := Hh.out.lenb
  obtain ⟨w2, hw2⟩ : ∃ w2, Hid (w1.setCell ⟨d, 1, none⟩ (.slice (some ⟨g, 0, none⟩) (n - 1) cap) = w2) := ⟨_, rfl⟩
  have hd2 : w2.heap[d]? = some (.cells #[.slice (some ⟨bb, 0, none⟩) bs.length bs.length, .slice (some ⟨g, 0, none⟩) (n - 1) cap] 65 (0, 0)) := by
    rw [← hw2.out]; exact block_set Hd1.out _
  have hr0' : w2.heap[w.heap.size]? = some (.cells #[.int .i64 0, .int .i64 0, .bool false, .int .u64 0] 29 (0, 0)) := by
    rw [← hw2.out, block_set_ne (by simp; omega)]; exact Hr0.out
  have hr1' : w2.heap[w.heap.size + 1]? = some (.cells #[.int .i64 r.who, .int .i64 r.block, .bool r.write, .int .u64 r.x] 29 (0, 0)) := by
    rw [← hw2.out, block_set_ne (by simp; omega)]; exact Hr1.out
  have ke : Keeps F w w2 := by
    rw [← hw2.out]
    refine ((((Keeps.refl F w).alloc _).alloc _).trans Hk1.out (fun j hj h => ?_)).setCell (.inl Hh.out.foot.1) _
    subst h; exact hnd.2.2
  have hbk : Own w2 27 1 (.slice (some ⟨bb, 0, none⟩) bs.length bs.length) bs.length (bs.map (.int .u64)) := by
    rw [← hw2.out]
    refine (Hh.out.blocks.keeps (S := fun x => x = d ∨ x = g) ((((((Keeps.refl _ w).alloc _).alloc _).trans Hk1.out (fun j hj h => .inr h))).setCell (.inl (.inl rfl)) _) ?_)
    intro b hb
    simp [Value.ownBlock] at hb
    subst hb
    rintro (h | h)
    · exact Hh.out.ne h.symm
    · exact hnd.2.1 h.symm
  have hwt : Own w2 29 4 (.slice (some ⟨g, 0, none⟩) (n - 1) cap) (n - 1) ((ws.eraseIdx ix).flatMap encR) := by
    rw [← hw2.out, ← flat_erase encR 4 encR_len]
    exact Ho1.out.keeps ((Keeps.refl (fun x => x = d) w1).setCell (.inl rfl) _) (fun b hb => by simp [Value.ownBlock] at hb; subst hb; exact hnd.1)
  have p0 := cell_of_block hd2 (o := 0) rfl
  have p1 := cell_of_block hr1' (o := 1) rfl
  have p2 := cell_of_block hr1' (o := 2) rfl
  have p3 := cell_of_block hr1' (o := 3) rfl
  have p4 := cell_of_block hr1' (o := 0) rfl
  have z0 := cell_of_block hr0' (o := 0) rfl
  have z1 := cell_of_block hr0' (o := 1) rfl
  have z2 := cell_of_block hr0' (o := 2) rfl
  have z3 := cell_of_block hr0' (o := 3) rfl
  have y0 := frozen_of_block (o := 0) hr0'
  have y1 := frozen_of_block (o := 1) hr0'
  have y2 := frozen_of_block (o := 2) hr0'
  have y3 := frozen_of_block (o := 3) hr0'
  have hne0 : bb ≠ w.heap.size := by omega
  have hne1 : bb ≠ w.heap.size + 1 := by omega
  have pb : w2.cell? ⟨bb, bl, none⟩ = some (.int .u64 y) := by
    rw [World.ownsRow.cellAt hbk bl (by omega)]; simp [hy]
  have pf : w2.frozen? ⟨bb, bl, none⟩ = false := World.ownsRow.frozenAt hbk bl
  have hfin : ∀ (bs' : List Int) (w3 : World), bs'.length = bs.length → Own w3 27 1 (.slice (some ⟨bb, 0, none⟩) bs.length bs.length) bs.length (bs'.map (.int .u64)) → Keeps (fun x => x = bb ∨ w.heap.size ≤ x) w2 w3 → DiskAt F w3 d bs' (ws.eraseIdx ix) ∧ Keeps F w w3 := by
    intro bs' w3 hl ho kp
    have hel : (ws.eraseIdx ix).length = n - 1 := by rw [List.length_eraseIdx, if_pos (by rw [hn.out]; exact hil), hn.out]
    refine ⟨⟨bb, some ⟨g, 0, none⟩, cap, ?_, by rw [hl]; exact ho, ?_, Hh.out.ne, ?_, Hh.out.foot, by rw [hl]; exact hlb, by omega, fun q hq => ?_, fun j hj => ?_⟩, ke.trans kp (fun j hj h => by rcases h with h | h; subst h; exact Hh.out.foot.2; omega)⟩
    · rw [hl, hel, kp.block d (lt_of_block hd2) (fun h => by rcases h with h | h; exact Hh.out.ne h; omega)]; exact hd2
    · rw [hel]; exact hwt.keeps kp (fun b hb => by simp [Value.ownBlock] at hb; subst hb; rintro (h | h); exact hnd.2.1 h; omega)
    · intro k hk; simp [Value.ownBlock] at hk; subst hk; exact hnd
    · rw [hl]; exact Hh.out.ok q (List.mem_of_mem_eraseIdx hq)
    · exact Nat.lt_of_lt_of_le (Hh.out.flt j hj) (Nat.le_trans ke.size kp.size)
  have Hfin := Lib.hid hfin
  have Hy := Lib.hid hy
  have Hbk := Lib.hid hbk
  have Hr0' := Lib.hid hr0'
  have Hr1' := Lib.hid hr1'
  have hlt2 : d < w2.heap.size ∧ bb < w2.heap.size := ⟨lt_of_block hd2, hbk.lt bb rfl⟩
  clear hfin hy hbk hwt hd2 hr0' hr1' ke
  by_cases hw : r.write = true
  · have p2' : w2.cell? ⟨w.heap.size + 1, 2, none⟩ = some (.bool true) := by rw [p2]; simp [hw]
    clear p2 q2
    go_upto_region 6 with fail
    rw [hw2.out]
    go_wp2_with fail
    go_region
    go_wp2_with fail
    refine bodyPost_ret (v := .tuple #[.agg #[.int .i64 r.who, .int .i64 bl, .bool true, .int .u64 r.x], .int .u64 0, .bool true]) (by simp [results, Try.results10, go_sem, z0, z1, z2, z3]) rfl ?_
    refine ⟨by rw [hbl, hw]; simp [got1, hw], ?_⟩
    have hd : done1 bs r = bs.set bl r.x := by simp [done1, hw, hbl]
    rw [hd]
    refine Hfin.out _ _ (by simp) ?_ ?_
    · have ho := (World.ownsRow.stored Hbk.out bl (.int .u64 r.x)).1
      rw [List.map_set]
      exact Own.keeps (S := fun x => w.heap.size ≤ x) ho ((((((Keeps.refl _ _).set (.inl (Nat.le_refl _)) _).set (.inl (Nat.le_refl _)) _).set (.inl (Nat.le_refl _)) _).set (.inl (Nat.le_refl _)) _).drew) (fun b hb => by simp [Value.ownBlock] at hb; subst hb; omega)
    · exact ((((((Keeps.refl _ _).set (.inl (.inl rfl)) _).set (.inl (.inr (Nat.le_refl _))) _).set (.inl (.inr (Nat.le_refl _))) _).set (.inl (.inr (Nat.le_refl _))) _).set (.inl (.inr (Nat.le_refl _))) _).drew
  · have hw' : r.write = false := by simpa using hw
    have p2' : w2.cell? ⟨w.heap.size + 1, 2, none⟩ = some (.bool false) := by rw [p2]; simp [hw']
    clear p2 q2
    go_upto_region 6 with fail
    rw [hw2.out]
    go_wp2_with fail
    have hb0 : (0 : Int) ≤ (bl : Int) := by omega
    have hx0 : w.heap.size ≠ d := by omega
    have hx1 : d ≠ w.heap.size := by omega
    have hx2 : w.heap.size ≠ bb := by omega
    have hb1 : (bl : Int) < bs.length := by omega
    go_region_held3 (fun w' => w'.cell? ⟨d, 0, none⟩ = some (.slice (some ⟨bb, 0, none⟩) bs.length bs.length) ∧ w'.cell? ⟨w.heap.size + 1, 0, none⟩ = some (.int .i64 r.who) ∧ w'.cell? ⟨w.heap.size + 1, 1, none⟩ = some (.int .i64 (bl : Int)) ∧ w'.cell? ⟨w.heap.size + 1, 2, none⟩ = some (.bool false) ∧ w'.cell? ⟨w.heap.size + 1, 3, none⟩ = some (.int .u64 r.x) ∧ w'.cell? ⟨bb, bl, none⟩ = some (.int .u64 y))
      (go_keep) (fail)
    go_wp2_with fail
    refine bodyPost_ret (v := .tuple #[.agg #[.int .i64 r.who, .int .i64 bl, .bool false, .int .u64 r.x], .int .u64 y, .bool true]) (by simp [results, Try.results10, go_sem, z0, z1, z2, z3]) rfl ?_
    refine ⟨by rw [hbl, hw']; simp [got1, hw', hbl, Hy.out], ?_⟩
    have hd : done1 bs r = bs := by simp [done1, hw']
    rw [hd]
    have hq : w.heap.size = bb ∨ w.heap.size ≤ w.heap.size := .inr (Nat.le_refl _)
    have kk : Keeps (fun x => x = bb ∨ w.heap.size ≤ x) w2 ((((w2.setCell ⟨w.heap.size, 0, none⟩ (.int .i64 r.who)).setCell ⟨w.heap.size, 1, none⟩ (.int .i64 (bl : Int))).setCell ⟨w.heap.size, 2, none⟩ (.bool false)).setCell ⟨w.heap.size, 3, none⟩ (.int .u64 r.x)).drew := by
      repeat (first | exact Keeps.refl _ _ | refine Keeps.drew ?_ | refine Keeps.set ?_ (.inl hq) _)
    have kk' : Keeps (fun x => w.heap.size ≤ x) w2 ((((w2.setCell ⟨w.heap.size, 0, none⟩ (.int .i64 r.who)).setCell ⟨w.heap.size, 1, none⟩ (.int .i64 (bl : Int))).setCell ⟨w.heap.size, 2, none⟩ (.bool false)).setCell ⟨w.heap.size, 3, none⟩ (.int .u64 r.x)).drew := by
      repeat (first | exact Keeps.refl _ _ | refine Keeps.drew ?_ | refine Keeps.set ?_ (.inl (Nat.le_refl _)) _)
    exact Hfin.out _ _ rfl (Hbk.out.keeps kk' (fun b hb => by simp [Value.ownBlock] at hb; subst hb; omega)) kk

/-! The other calls. -/
theorem block_nil (n : Int) (w : World) : Calls Try.prog 12 #[.pointer none, .int .i64 n] w fun e w' => e = .returned (.tuple #[.int .u64 0, .bool false]) ∧ Keeps NoBlock w w' := by
  go_enter Try.func12, Try.ntmps12
  go_wp2
  go_ret2
  exact ⟨rfl, Keeps.refl _ _⟩

theorem block_in {F : Nat → Prop} (d : Nat) (bs : List Int) (ws : List Req) (n : Nat) (x : Int) (w : World) (h : DiskAt F w d bs ws) (hx : bs[n]? = some x) :
    Calls Try.prog 12 #[.pointer (some ⟨d, 0, none⟩), .int .i64 n] w fun e w' => e = .returned (.tuple #[.int .u64 x, .bool true]) ∧ Keeps NoBlock w w' := by
  obtain ⟨bb, A, cap, h⟩ := h
  have hlt : n < bs.length := (List.getElem?_eq_some_iff.1 hx).1
  have hc := cell_of_block h.head (o := 0) rfl
  have hl := h.lenb
  have hcb : w.cell? ⟨bb, n, none⟩ = some (.int .u64 x) := by
    rw [World.ownsRow.cellAt h.blocks n (by omega)]; simp [hx]
  clear h hx
  go_enter Try.func12, Try.ntmps12
  go_wp2
  go_ret2
  exact ⟨rfl, Keeps.refl _ _⟩

theorem block_out {F : Nat → Prop} (d : Nat) (bs : List Int) (ws : List Req) (n : Int) (w : World) (h : DiskAt F w d bs ws) (hx : n < 0 ∨ (bs.length : Int) ≤ n) :
    Calls Try.prog 12 #[.pointer (some ⟨d, 0, none⟩), .int .i64 n] w fun e w' => e = .returned (.tuple #[.int .u64 0, .bool false]) ∧ Keeps NoBlock w w' := by
  obtain ⟨bb, A, cap, h⟩ := h
  have hc := cell_of_block h.head (o := 0) rfl
  have hl := h.lenb
  clear h
  rcases hx with hx | hx
  · go_enter Try.func12, Try.ntmps12
    go_wp2
    go_ret2
    exact ⟨rfl, Keeps.refl _ _⟩
  · have h0 : 0 ≤ n := by omega
    go_enter Try.func12, Try.ntmps12
    go_wp2
    go_ret2
    exact ⟨rfl, Keeps.refl _ _⟩

def RdPost (w : World) (ws : List Req) (e : Ending) (w' : World) : Prop := ∃ v, e = .returned v ∧ Rd encR 4 w' v ws ∧ (∀ k, v.ownBlock = some k → w.heap.size ≤ k) ∧ Keeps NoBlock w w'

theorem wait_nil (w : World) : Calls Try.prog 15 #[.pointer none] w fun e w' => e = .returned (.slice none 0 0) ∧ w = w' := by
  go_enter Try.func15, Try.ntmps15
  go_wp2
  go_ret
  exact ⟨rfl, rfl⟩

theorem wait_calls {F : Nat → Prop} (d : Nat) (bs : List Int) (ws : List Req) (w : World) (h : DiskAt F w d bs ws) :
    Calls Try.prog 15 #[.pointer (some ⟨d, 0, none⟩)] w (RdPost w ws) := by
  obtain ⟨bb, A, cap, h⟩ := h
  have hc := cell_of_block h.head (o := 1) rfl
  have hl := h.lenw
  have Hh := Lib.hid h
  clear h
  go_enter Try.func15, Try.ntmps15
  go_wp2_with fail
  refine (cloneR_calls _ _ _ _ Hh.out.wait (encR_one _) (by omega)).mono ?_
  rintro e w1 ⟨v, rfl, ho, hf, hk⟩
  obtain ⟨A1, n1, c1, rfl, hn1, hA1⟩ : ∃ A n c, v = .slice A n c ∧ n ≤ c ∧ (A = none → n = 0 ∧ c = 0) := by
    rcases Own.form ho with ⟨rfl, _⟩ | ⟨g, c, rfl, _, h2, _⟩
    · exact ⟨none, 0, 0, rfl, Nat.le_refl _, fun _ => ⟨rfl, rfl⟩⟩
    · exact ⟨_, _, _, rfl, h2, fun h => by simp at h⟩
  have Hr := Lib.hid (Own.rd encR_len ho)
  have Hf := Lib.hid hf
  have Hk := Lib.hid hk
  clear ho hf hk
  go_wp2_with fail
  refine (clipR_calls _ _ _ hn1 hA1 _).mono ?_
  rintro e w2 ⟨rfl, rfl⟩
  go_wp2_with fail
  go_ret
  exact ⟨_, rfl, Hr.out.clip, fun k hk => Hf.out k (by cases A1 <;> exact hk), Hk.out⟩
end Go.Proofs.Ytgepedfipfobjaa
