/- Package gate: Signal, in plain words and in the program. -/
import Derived.Test.YtlgolofcpokndaaGtP
import Derived.StillTailTactics
import Derived.Lib.MinMax
namespace Go.Proofs.Ytlgolofcpokndaa
open Go.RowKit

namespace Gt

def sumL {α : Type} (f : α → Nat) (l : List α) : Nat := (l.map f).sum

theorem sumL_set {α : Type} (f : α → Nat) : ∀ (l : List α) (i : Nat) (x y : α), l[i]? = some x → sumL f (l.set i y) + f x = sumL f l + f y
  | [], i, x, y, h => by simp at h
  | a :: l, 0, x, y, h => by
    simp only [List.getElem?_cons_zero, Option.some.injEq] at h
    subst h
    simp [sumL]
    omega
  | a :: l, i + 1, x, y, h => by
    have := sumL_set f l i x y (by simpa using h)
    simp [sumL] at this ⊢
    omega

theorem le_sumL {α : Type} (f : α → Nat) : ∀ (l : List α) (x : α), x ∈ l → f x ≤ sumL f l
  | a :: l, x, h => by
    rcases List.mem_cons.1 h with rfl | h
    · simp [sumL]
    · have := le_sumL f l x h
      simp [sumL] at this ⊢
      omega

/-- How many wait in all. -/
def tot (st : St) : Nat := sumL (fun x => x.q.length) st.ms + sumL List.length st.cs + sumL (fun x => x.2.length) st.ss

theorem tot_short {n : Nat} {st : St} (h : tot st ≤ n) : ShortA n st := by
  unfold tot at h
  refine ⟨fun x hx => ?_, fun x hx => ?_, fun x hx => ?_⟩
  · have := le_sumL (fun x : MA => x.q.length) st.ms x hx
    omega
  · have := le_sumL List.length st.cs x hx
    omega
  · have := le_sumL (fun x : Int × List Wt => x.2.length) st.ss x hx
    omega

/-- Who waits for a condition waits with a mutex that there is. -/
def InM (st : St) : Prop := ∀ q ∈ st.cs, ∀ y ∈ q, 0 ≤ y.2 ∧ y.2 < (st.ms.length : Int)

def lockX (x : MA) (who : Int) : MA := if x.held then { x with q := x.q ++ [(who, 0)] } else { x with held := true, own := who }

theorem lockA_eq {st : St} {m : Nat} {who : Int} {x : MA} (h : st.ms[m]? = some x) : lockA st m who = (!x.held, { st with ms := st.ms.set m (lockX x who) }) := by
  unfold lockA lockX
  rw [h]
  cases hh : x.held <;> simp [hh]

/-- One step, where there is one who waits. -/
theorem sigStep_eq {c : Nat} {ch : Int} {p : List Int × St} {q : List Wt} {y : Wt} {x : MA} (hq : p.2.cs[c]? = some q) (hy : q[at_ ch q.length]? = some y) (hx : p.2.ms[y.2.toNat]? = some x) :
    sigStep c ch p = (p.1 ++ (if x.held then [] else [y.1]), { p.2 with ms := p.2.ms.set y.2.toNat (lockX x y.1), cs := p.2.cs.set c (q.eraseIdx (at_ ch q.length)) }) := by
  unfold sigStep
  simp only [hq, hy]
  rw [lockA_eq (st := { p.2 with cs := p.2.cs.set c (q.eraseIdx (at_ ch q.length)) }) hx]
  cases x.held <;> rfl

theorem sig_tot {c : Nat} {ch : Int} {p : List Int × St} {q : List Wt} {y : Wt} {x : MA} (hq : p.2.cs[c]? = some q) (hy : q[at_ ch q.length]? = some y) (hx : p.2.ms[y.2.toNat]? = some x) : tot (sigStep c ch p).2 ≤ tot p.2 := by
  rw [sigStep_eq hq hy hx]
  unfold tot
  have h1 := sumL_set (fun x : MA => x.q.length) p.2.ms y.2.toNat x (lockX x y.1) hx
  have h2 := sumL_set List.length p.2.cs c q (q.eraseIdx (at_ ch q.length)) hq
  have h3 : (q.eraseIdx (at_ ch q.length)).length + 1 = q.length := by
    have := (List.getElem?_eq_some_iff.1 hy).1
    rw [List.length_eraseIdx_of_lt this]
    omega
  have h4 : (lockX x y.1).q.length ≤ x.q.length + 1 := by
    unfold lockX
    split <;> simp
  simp only [] at h1 ⊢
  omega

theorem sig_in {c : Nat} {ch : Int} {p : List Int × St} {q : List Wt} {y : Wt} {x : MA} (hq : p.2.cs[c]? = some q) (hy : q[at_ ch q.length]? = some y) (hx : p.2.ms[y.2.toNat]? = some x) (hI : InM p.2) : InM (sigStep c ch p).2 := by
  rw [sigStep_eq hq hy hx]
  intro r hr z hz
  simp only [List.length_set] at hr ⊢
  rcases List.mem_or_eq_of_mem_set hr with h | h
  · exact hI r h z hz
  · subst h
    exact hI q (List.mem_of_getElem? hq) z (List.mem_of_mem_eraseIdx hz)

/-- What is there behind k steps. -/
theorem sigN_row {st : St} {c : Nat} {ch : Int} {q : List Wt} (hI : InM st) (hq : st.cs[c]? = some q) : ∀ k, k ≤ q.length → ∃ qk, (sigN c ch st k).2.cs[c]? = some qk ∧ qk.length + k = q.length ∧ InM (sigN c ch st k).2 ∧ tot (sigN c ch st k).2 ≤ tot st
  | 0, _ => ⟨q, hq, rfl, hI, Nat.le_refl _⟩
  | k + 1, hk => by
    obtain ⟨qk, h1, h2, h3, h4⟩ := sigN_row (ch := ch) hI hq k (by omega)
    have hlt := at_lt ch (n := qk.length) (by omega)
    obtain ⟨y, hy⟩ : ∃ y, qk[at_ ch qk.length]? = some y := ⟨_, List.getElem?_eq_getElem hlt⟩
    have hyr := h3 qk (List.mem_of_getElem? h1) y (List.mem_of_getElem? hy)
    obtain ⟨x, hx⟩ : ∃ x, (sigN c ch st k).2.ms[y.2.toNat]? = some x := ⟨_, List.getElem?_eq_getElem (by omega)⟩
    refine ⟨qk.eraseIdx (at_ ch qk.length), ?_, ?_, sig_in h1 hy hx h3, Nat.le_trans (sig_tot h1 hy hx) h4⟩
    · show (sigStep c ch (sigN c ch st k)).2.cs[c]? = _
      rw [sigStep_eq h1 hy hx]
      simp only []
      rw [List.getElem?_set_self ((List.getElem?_eq_some_iff.1 h1).1)]
    · rw [List.length_eraseIdx_of_lt hlt]
      omega

abbrev gB (G : Nat) (vm vc vs : Value) (ms : List Mx) (cs : List Rw) (ss : List Sm) : Nat → Prop := blocksOf G (gateE vm vc vs ms cs ss)

theorem GAt.blt {w0 : Base} {w : World} {G : Nat} {vm vc vs : Value} {ms : List Mx} {cs : List Rw} {ss : List Sm} (h : GAt w0 G vm vc vs ms cs ss w) : ∀ b, gB G vm vc vs ms cs ss b → b < w.heap.size := by
  rintro b (rfl | ⟨p, x, hp, hb⟩)
  · exact lt_of_block h.head
  · exact h.env.lt hp hb

theorem GAt.turn {w0 : Base} {w : World} {G : Nat} {vm vc vs : Value} {ms : List Mx} {cs : List Rw} {ss : List Sm} (h : GAt w0 G vm vc vs ms cs ss w) : Turn w0.K (gB G vm vc vs ms cs ss) w0.w w := by
  refine ⟨h.kp, ?_⟩
  rintro b (rfl | ⟨p, x, hp, hb⟩)
  · exact h.lG
  · exact (h.env.lw p x b hp hb).1

/-- The same gates, begun anew in a later world. -/
theorem GAt.move {w0 : Base} {w w' : World} {G : Nat} {vm vc vs : Value} {ms : List Mx} {cs : List Rw} {ss : List Sm} {K : Nat → Prop} (h : GAt w0 G vm vc vs ms cs ss w) (k : Keeps K w w') (hK : ∀ b, K b → ¬ gB G vm vc vs ms cs ss b) : GAt ⟨w', gB G vm vc vs ms cs ss⟩ G vm vc vs ms cs ss w' := by
  refine ⟨(k.block _ (lt_of_block h.head) (fun e => hK _ e (.inl rfl))).trans h.head, ⟨fun i x hi => (h.env.own i x hi).keeps k (fun b hb e => hK b e (.inr ⟨i, x, hi, hb⟩)), fun i x b hi hb => ⟨.inl (.inr ⟨i, x, hi, hb⟩), (h.env.lw i x b hi hb).2⟩, h.env.sep⟩, .inl (.inl rfl), Keeps.refl _ _, h.lm, h.lc, h.ls⟩

theorem Turn.step {B B' K : Nat → Prop} {w w1 w' : World} (h : Turn B B' w w1) (k : Keeps K w1 w') (hK : ∀ b, K b → w.heap.size ≤ b) : Turn B B' w w' :=
  ⟨h.kp.trans k (fun j hj e => by have := hK j e; omega), h.new⟩

/-- lock, of a mutex that there is. -/
theorem lock_any {w0 : Base} {w : World} {G m M cap : Nat} {vc vs : Value} {ms : List Mx} {cs : List Rw} {ss : List Sm} {x : Mx} (who : Int) (h : GAt w0 G (.slice (some ⟨M, 0, none⟩) ms.length cap) vc vs ms cs ss w) (hx : ms[m]? = some x) (hl : x.q.length ≤ 1000000) :
    Calls Try.prog 27 #[.pointer (some ⟨M, m * 3, none⟩), .int .i64 who] w fun e w' => e = .returned (.bool (!x.held)) ∧ ∃ ms', GAt w0 G (.slice (some ⟨M, 0, none⟩) ms.length cap) vc vs ms' cs ss w' ∧ ms'.length = ms.length ∧ ms'.map aM = (ms.map aM).set m (lockX (aM x) who) := by
  cases hh : x.held with
  | true =>
    obtain ⟨M', ⟨cap', hM'⟩, hlk⟩ := lock_held who h hx hh hl
    cases hM'
    refine hlk.mono ?_
    rintro e w' ⟨rfl, v', hg⟩
    exact ⟨rfl, _, hg, List.length_set .., by rw [List.map_set]; simp [aM, lockX, hh]⟩
  | false =>
    obtain ⟨M', ⟨cap', hM'⟩, hlk⟩ := lock_free who h hx hh
    cases hM'
    refine hlk.mono ?_
    rintro e w' ⟨rfl, hg⟩
    exact ⟨rfl, _, hg, List.length_set .., by rw [List.map_set]; simp [aM, lockX, hh]⟩

/-- take, of a condition's row where someone waits. -/
theorem takeC {w0 : Base} {w : World} {G c C cap : Nat} {vm vs : Value} {ms : List Mx} {cs : List Rw} {ss : List Sm} {r : Rw} {y : Wt} (ch : Int) (h : GAt w0 G vm (.slice (some ⟨C, 0, none⟩) cs.length cap) vs ms cs ss w) (hr : cs[c]? = some r) (hy : r.q[at_ ch r.q.length]? = some y) (hl : r.q.length ≤ 1000000) :
    Calls Try.prog 31 #[.pointer (some ⟨C, c, none⟩), .int .i64 ch] w fun e w' => e = .returned (.tuple #[.agg #[.int .i64 y.1, .int .i64 y.2], .bool true]) ∧ ∃ cs', GAt w0 G vm (.slice (some ⟨C, 0, none⟩) cs.length cap) vs ms cs' ss w' ∧ cs'.length = cs.length ∧ cs'.map aR = (cs.map aR).set c (r.q.eraseIdx (at_ ch r.q.length)) := by
  have hq := at_some hy
  have oc := h.oc
  have z0 := rw_cells rfl oc hr
  have f0 := World.ownsRow.frozenAt oc c
  have hne : r.v.ownBlock ≠ some C := fun e => absurd (h.env.sep (2, c) (0, 1) _ _ C (show gateE vm _ vs ms cs ss (2, c) = some (rowE r.v r.q) by show (cs[c]?).map _ = _; rw [hr]; rfl) rfl e rfl) (by simp)
  refine (take_calls ch hq hy z0 f0 (h.rc hr) hne hl).mono ?_
  rintro e w' ⟨rfl, hp⟩
  rw [show c = c * 1 + 0 by omega] at hp
  obtain ⟨v', hg⟩ := h.rowC (by simpa using hr) rfl hp
  exact ⟨rfl, _, hg, List.length_set .., by rw [List.map_set]; simp [aR]⟩

/-- What Signal leaves: who goes on, in a row of its own. -/
def SigPost (G : Nat) (B : Nat → Prop) (w : World) (l : List Int) (err : Int) (st' : St) (e : Ending) (w' : World) : Prop :=
  ∃ u B', e = .returned (.tuple #[u, .int .i64 err]) ∧ Gs G B' st' w' ∧ Turn B B' w w' ∧ Own w' 3 1 u l.length (l.map encI) ∧ ∀ b, u.ownBlock = some b → w.heap.size ≤ b ∧ ¬ B' b

/-- In Signal's rounds. -/
def SRel (w : World) (G : Nat) (B : Nat → Prop) (vm vc vs : Value) (nm nc : Nat) (ss : List Sm) (st : St) (c : Nat) (ch : Int) (k : Nat) (u : Value) (wr : World) : Prop :=
  ∃ Bk ms' cs', GAt ⟨wr, Bk⟩ G vm vc vs ms' cs' ss wr ∧ Turn B Bk w wr ∧ ms'.length = nm ∧ cs'.length = nc ∧ ms'.map aM = (sigN c ch st k).2.ms ∧ cs'.map aR = (sigN c ch st k).2.cs ∧
    Own wr 3 1 u (sigN c ch st k).1.length ((sigN c ch st k).1.map encI) ∧ ∀ b, u.ownBlock = some b → w.heap.size ≤ b ∧ ¬ Bk b

theorem SRel.fin {w : World} {G : Nat} {B : Nat → Prop} {vm vc vs : Value} {nm nc : Nat} {ss : List Sm} {st : St} {c : Nat} {ch : Int} {k : Nat} {u : Value} {wr : World} (h : SRel w G B vm vc vs nm nc ss st c ch k u wr) (hs : ss.map aS = st.ss) (hk : (sigN c ch st k).2.ss = st.ss) :
    SigPost G B w (sigN c ch st k).1 0 (sigN c ch st k).2 (.returned (.tuple #[u, .int .i64 0])) wr := by
  obtain ⟨Bk, ms', cs', hg, ht, _, _, e1, e2, ho, hu⟩ := h
  obtain ⟨B2, h2, t2⟩ := Gs.of hg e1 e2 (hs.trans hk.symm)
  refine ⟨u, B2, rfl, h2, ht.trans t2, ho, fun b hb => ⟨(hu b hb).1, fun e => ?_⟩⟩
  rcases t2.new b e with h1 | h1
  · exact (hu b hb).2 h1
  · have := ho.lt b hb
    simp only [] at h1
    omega

theorem sigStep_ss {c : Nat} {ch : Int} (p : List Int × St) : (sigStep c ch p).2.ss = p.2.ss := by
  unfold sigStep lockA
  repeat' split
  all_goals rfl

theorem sigN_ss {c : Nat} {ch : Int} {st : St} : ∀ k, (sigN c ch st k).2.ss = st.ss
  | 0 => rfl
  | k + 1 => (sigStep_ss _).trans (sigN_ss k)

theorem sigStep_out {c : Nat} {ch : Int} (p : List Int × St) : (sigStep c ch p).1.length ≤ p.1.length + 1 := by
  unfold sigStep
  repeat' split
  · exact Nat.le_succ _
  · exact Nat.le_succ _
  · simp only []
    rw [List.length_append]
    split <;> simp

theorem sigN_out {c : Nat} {ch : Int} {st : St} : ∀ k, (sigN c ch st k).1.length ≤ k
  | 0 => Nat.le_refl _
  | k + 1 => Nat.le_trans (sigStep_out _) (Nat.succ_le_succ (sigN_out k))

set_option maxRecDepth 100000 in
set_option maxHeartbeats 1000000 in
theorem signal_one {w : World} {G : Nat} {B : Nat → Prop} {vm vs : Value} {C cap nm nc N c : Nat} {ms : List Mx} {cs : List Rw} {ss : List Sm} {st : St} {r : Rw} (ch : Int)
    (h : GAt ⟨w, B⟩ G vm (.slice (some ⟨C, 0, none⟩) nc cap) vs ms cs ss w) (h1 : ms.map aM = st.ms) (h2 : cs.map aR = st.cs) (h3 : ss.map aS = st.ss) (hnm : ms.length = nm) (hnc : cs.length = nc) (hr : cs[c]? = some r) (hI : InM st) (ht : tot st ≤ 1000) (hN : min r.q.length 1 = N) :
    Calls Try.prog 13 #[.pointer (some ⟨G, 0, none⟩), .int .i64 c, .int .i64 ch, .bool false] w (SigPost G B w (sigN c ch st N).1 0 (sigN c ch st N).2) := by
  have hcl : c < nc := by rw [← hnc]; exact (List.getElem?_eq_some_iff.1 hr).1
  have hqc : st.cs[c]? = some r.q := by rw [← h2, List.getElem?_map, hr]; rfl
  have HR : Hid (∀ k, k ≤ N → ∃ qk, (sigN c ch st k).2.cs[c]? = some qk ∧ qk.length + k = r.q.length ∧ InM (sigN c ch st k).2 ∧ tot (sigN c ch st k).2 ≤ 1000) := fun k hk => by
    obtain ⟨qk, s1, s2, s3, s4⟩ := sigN_row (ch := ch) hI hqc k (by omega)
    exact ⟨qk, s1, s2, s3, Nat.le_trans s4 ht⟩
  have HS0 : Hid (SRel w G B vm (.slice (some ⟨C, 0, none⟩) nc cap) vs nm nc ss st c ch 0 (.slice none 0 0) w) :=
    ⟨B, ms, cs, h, Turn.refl _ _, hnm, hnc, h1, h2, World.ownsRow_nil _ _ _ _, fun k hk => by simp [Value.ownBlock] at hk⟩
  have c1 : w.cell? ⟨G, 1, none⟩ = some (.slice (some ⟨C, 0, none⟩) nc cap) := cell_of_block h.head (o := 1) rfl
  have hget := Lib.hid (getC_in c c1 hcl)
  have oc := h.oc
  rw [hnc] at oc
  have z0 := rw_cells hnc oc hr
  obtain ⟨A, capr, hv, _⟩ := own_len (h.rc hr)
  rw [hv] at z0
  obtain ⟨L, hL⟩ : ∃ L, r.q.length = L := ⟨_, rfl⟩
  rw [hL] at z0 hN HR
  have hmin : min (L : Int) 1 = (N : Int) := by omega
  have Hmin := Lib.hid hN
  have HN : Hid (N ≤ 1000) := by show N ≤ 1000; omega
  have H3 := Lib.hid h3
  clear h h1 h2 h3 hnm hnc hr hI ht hN c1 oc hv hqc hL
  go_enter Try.func13, Try.ntmps13
  go_wp2_with fail
  refine hget.out.mono ?_
  rintro e w1 ⟨rfl, rfl⟩
  go_wp2_with fail
  go_loopw [12, 33] (fun u i wr => ∃ (k : Nat), k ≤ N ∧ i = .int .i64 k ∧ SRel w G B vm (.slice (some ⟨C, 0, none⟩) nc cap) vs nm nc ss st c ch k u wr) (fun _ i _ => N - (intOf i).toNat)
  case atStart => exact ⟨0, Nat.zero_le _, rfl, HS0.out⟩
  case round =>
    obtain ⟨k, hk, rfl, hm⟩ := hrel
    have HM := Lib.hid hm
    clear hm
    by_cases hlt : k < N
    · obtain ⟨Bk, ms', cs', hg, ht, l1, l2, e1, e2, ho, hu⟩ := HM.out
      obtain ⟨qk, s1, s2, s3, s4⟩ := HR.out k (by omega)
      have hal := at_lt ch (n := qk.length) (by omega)
      obtain ⟨y, hy⟩ : ∃ y, qk[at_ ch qk.length]? = some y := ⟨_, List.getElem?_eq_getElem hal⟩
      have hyr := s3 qk (List.mem_of_getElem? s1) y (List.mem_of_getElem? hy)
      obtain ⟨y1, y2⟩ := y
      simp only [] at hyr
      obtain ⟨m, rfl⟩ : ∃ m : Nat, y2 = (m : Int) := ⟨y2.toNat, by omega⟩
      obtain ⟨xa, hxa⟩ : ∃ x, (sigN c ch st k).2.ms[m]? = some x := ⟨_, List.getElem?_eq_getElem (by omega)⟩
      obtain ⟨x, hx, rfl⟩ : ∃ x, ms'[m]? = some x ∧ aM x = xa := by
        rw [← e1, List.getElem?_map, Option.map_eq_some_iff] at hxa
        exact hxa
      obtain ⟨r, hr, rfl⟩ : ∃ r, cs'[c]? = some r ∧ aR r = qk := by
        rw [← e2, List.getElem?_map, Option.map_eq_some_iff] at s1
        exact s1
      have hst := Lib.hid (sigStep_eq (ch := ch) s1 hy hxa)
      have hsh := tot_short s4
      have hlx : x.q.length ≤ 1000000 := by have := hsh.1 _ (List.mem_of_getElem? hxa); show (aM x).q.length ≤ _; omega
      have hlr : r.q.length ≤ 1000000 := by have := hsh.2.1 _ (List.mem_of_getElem? s1); show (aR r).length ≤ _; omega
      have hmm : m < nm := by rw [← l1]; exact (List.getElem?_eq_some_iff.1 hx).1
      subst l1
      subst l2
      have htk := Lib.hid (takeC ch hg hr hy hlr)
      obtain ⟨M, capM, hvm⟩ : ∃ M capM, vm = .slice (some ⟨M, 0, none⟩) ms'.length capM := by
        obtain ⟨A, capM, e, hA⟩ := own_len hg.om
        obtain ⟨M, rfl⟩ := hA (by omega)
        exact ⟨M, capM, e⟩
      subst hvm
      have Ho := Lib.hid ho
      have Hu := Lib.hid hu
      have Hx := Lib.hid hx
      have E1 := Lib.hid e1
      have E2 := Lib.hid e2
      have Ht := Lib.hid ht
      have Hmm := Lib.hid hmm
      have Hlx := Lib.hid hlx
      have hk0 : (0 : Int) ≤ (k : Int) := by omega
      have hkN : (k : Int) < (N : Int) := by omega
      have hwk : IntKind.i64.wrap ((k : Int) + 1) = (k : Int) + 1 := by have := HN.out; rw [IntKind.wrap_i64]; omega
      clear hg ht e1 e2 ho hu s1 s2 s3 s4 hal hy hyr hxa hx hr hsh hlx hlr hmm
      go_wp2_with fail
      refine htk.out.mono ?_
      rintro e w1 ⟨rfl, cs1, g1, lc1, ec1⟩
      have G1 := Lib.hid g1
      have LC1 := Lib.hid lc1
      have EC1 := Lib.hid ec1
      have T1 := Lib.hid (Ht.out.trans g1.turn)
      have Bl1 := Lib.hid g1.blt
      have O1 : Hid (Own w1 3 1 u12 (sigN c ch st k).1.length ((sigN c ch st k).1.map encI)) := Ho.out.keeps g1.kp (fun b hb => (Hu.out b hb).2)
      have U1 : Hid (∀ b, u12.ownBlock = some b → w.heap.size ≤ b ∧ ¬ gB G (.slice (some ⟨M, 0, none⟩) ms'.length capM) (.slice (some ⟨C, 0, none⟩) cs'.length cap) vs ms' cs1 ss b) := fun b hb => ⟨(Hu.out b hb).1, fun e => by
        rcases g1.turn.new b e with h1 | h1
        · exact (Hu.out b hb).2 h1
        · have := Ho.out.lt b hb
          simp only [] at h1
          omega⟩
      clear g1 lc1 ec1 htk Ho Hu
      go_upto_region 11 with fail
      generalize hW : World.alloc w1 _ = w2
      have k2 : Keeps NoBlock w1 w2 := by rw [← hW]; exact (Keeps.refl _ _).alloc _
      have G2 := Lib.hid (G1.out.move k2.drew (fun _ e => e.elim))
      have T2 := Lib.hid (T1.out.step k2.drew (fun _ e => e.elim))
      have O2 := Lib.hid (O1.out.keeps k2.drew (fun _ _ e => e))
      have hs12 : Hid (w1.heap.size < w2.heap.size) := by show _ < _; rw [← hW, World.size_alloc]; omega
      have b2 : w2.heap[w1.heap.size]? = some (.cells #[.int .i64 y1, .int .i64 m] 76 (0, 0)) := by rw [← hW]; exact block_alloc_new _ _
      have t0 : w2.cell? ⟨w1.heap.size, 0, none⟩ = some (.int .i64 y1) := cell_of_block (o := 0) b2 rfl
      have t1 : w2.cell? ⟨w1.heap.size, 1, none⟩ = some (.int .i64 m) := cell_of_block (o := 1) b2 rfl
      have cG : w2.cell? ⟨G, 0, none⟩ = some (.slice (some ⟨M, 0, none⟩) ms'.length capM) := cell_of_block G2.out.head (o := 0) rfl
      have hm0 : (0 : Int) ≤ (m : Int) := by omega
      have hmn : (m : Int) < (ms'.length : Int) := by have := Hmm.out; omega
      have hlk := Lib.hid (lock_any y1 G2.out Hx.out Hlx.out)
      have B2 := Lib.hid b2
      clear hW k2 b2
      go_still_tail 9, (by kernel_rfl)
      go_wp2_with fail
      refine hlk.out.mono ?_
      rintro e w3 ⟨rfl, ms3, g3, lm3, em3⟩
      have hms3 : Hid (ms3.map aM = (sigN c ch st (k + 1)).2.ms) := by
        show ms3.map aM = (sigStep c ch (sigN c ch st k)).2.ms
        rw [hst.out, em3, E1.out]; rfl
      have hcs3 : Hid (cs1.map aR = (sigN c ch st (k + 1)).2.cs) := by
        show cs1.map aR = (sigStep c ch (sigN c ch st k)).2.cs
        rw [hst.out, EC1.out, E2.out]; rfl
      have hout3 : Hid ((sigN c ch st (k + 1)).1 = (sigN c ch st k).1 ++ (if x.held then [] else [y1])) := by
        show (sigStep c ch (sigN c ch st k)).1 = _
        rw [hst.out]; rfl
      have b3 : w3.heap[w1.heap.size]? = some (.cells #[.int .i64 y1, .int .i64 m] 76 (0, 0)) := (g3.kp.block _ hs12.out (fun e => Nat.lt_irrefl _ (Bl1.out _ e))).trans B2.out
      have O3 : Hid (Own w3 3 1 u12 (sigN c ch st k).1.length ((sigN c ch st k).1.map encI)) := O2.out.keeps g3.kp (fun b hb => (U1.out b hb).2)
      have T3 := Lib.hid (T2.out.trans g3.turn)
      have U3 : Hid (∀ b, u12.ownBlock = some b → w.heap.size ≤ b ∧ ¬ gB G (.slice (some ⟨M, 0, none⟩) ms'.length capM) (.slice (some ⟨C, 0, none⟩) cs'.length cap) vs ms3 cs1 ss b) := fun b hb => ⟨(U1.out b hb).1, fun e => by
        rcases g3.turn.new b e with h1 | h1
        · exact (U1.out b hb).2 h1
        · have := O2.out.lt b hb
          simp only [] at h1
          omega⟩
      have G3 := Lib.hid g3
      have LM3 := Lib.hid lm3
      have hsr : Hid (∀ k' u W K, Keeps K w3 W → (∀ b, K b → w.heap.size ≤ b ∧ ¬ gB G (.slice (some ⟨M, 0, none⟩) ms'.length capM) (.slice (some ⟨C, 0, none⟩) cs'.length cap) vs ms3 cs1 ss b) → k' = k + 1 → Own W 3 1 u (sigN c ch st k').1.length ((sigN c ch st k').1.map encI) → (∀ b, u.ownBlock = some b → w.heap.size ≤ b ∧ ¬ gB G (.slice (some ⟨M, 0, none⟩) ms'.length capM) (.slice (some ⟨C, 0, none⟩) cs'.length cap) vs ms3 cs1 ss b) →
          SRel w G B (.slice (some ⟨M, 0, none⟩) ms'.length capM) (.slice (some ⟨C, 0, none⟩) cs'.length cap) vs ms'.length cs'.length ss st c ch k' u W) := fun k' u W K kW hK e ho hu => by
        subst e
        exact ⟨_, ms3, cs1, G3.out.move kW (fun b hb => (hK b hb).2), T3.out.step kW (fun b hb => (hK b hb).1), LM3.out, LC1.out, hms3.out, hcs3.out, ho, hu⟩
      have Bl3 := Lib.hid g3.blt
      have hsw3 : Hid (w.heap.size ≤ w3.heap.size) := T3.out.kp.size
      obtain ⟨xs, hxs⟩ : ∃ xs, (sigN c ch st k).1 = xs := ⟨_, rfl⟩
      rw [hxs] at O3 hout3
      obtain ⟨A5, c5, rfl⟩ := Own.isSlice O3.out
      have z3 : w3.cell? ⟨w1.heap.size, 0, none⟩ = some (.int .i64 y1) := cell_of_block (o := 0) b3 rfl
      have hxl : xs.length ≤ 1000 := by rw [← hxs]; exact Nat.le_trans (sigN_out k) (by have := HN.out; omega)
      clear g3 lm3 em3 hlk hst HM HS0 Ht cG t0 t1 G1 G2 T1 T2 O1 O2 U1 B2 b3 hms3 hcs3 E1 E2 hxs EC1 Bl1
      cases hh : x.held with
      | true =>
        rw [hh] at hout3
        clear hh
        go_wp2_with fail
        refine ⟨⟨k + 1, by omega, by simp, hsr.out _ _ _ NoBlock (Keeps.refl _ _) (fun _ e => e.elim) rfl ?_ U3.out⟩, by simp [intOf]; omega⟩
        rw [hout3.out]
        simp only [if_true, List.append_nil]
        exact O3.out
      | false =>
        rw [hh] at hout3
        clear hh
        go_wp2_with (first
          | (at_builtin; refine wpList_app1 eI _ rfl _ _ rfl (.slice A5 xs.length c5) _ _ rfl O3.out [.int .i64 y1] 3 _ rfl (by simp) rfl (by simp [Value.oneCell']) (by omega) (by decide) ?_; intro g1 cap1 w4 hown1 hk1 hfr1))
        refine ⟨⟨k + 1, by omega, by simp, hsr.out _ _ _ _ hk1 (fun b hb => U3.out b hb) rfl ?_ (fun b hb => ?_)⟩, by simp [intOf]; omega⟩
        · rw [hout3.out]
          simp only [Bool.false_eq_true, if_false, List.length_append, List.length_singleton, List.map_append]
          exact hown1
        · simp only [Value.ownBlock, Option.some.injEq] at hb
          subst hb
          rcases hfr1 with h1 | h1
          · exact U3.out _ h1
          · exact ⟨by have := hsw3.out; omega, fun e => by have := Bl3.out _ e; omega⟩
    · obtain rfl : k = N := by omega
      obtain ⟨Bk, ms', cs', hg, ht, l1, l2, e1, e2, ho, hu⟩ := HM.out
      obtain ⟨A5, c5, rfl⟩ := Own.isSlice ho
      clear hg ht e1 e2 ho hu l1 l2
      go_wp2_with fail
      go_ret2
      exact HM.out.fin H3.out (sigN_ss _)

set_option maxRecDepth 100000 in
set_option maxHeartbeats 1000000 in
theorem signal_all {w : World} {G : Nat} {B : Nat → Prop} {vm vs : Value} {C cap nm nc N c : Nat} {ms : List Mx} {cs : List Rw} {ss : List Sm} {st : St} {r : Rw} (ch : Int)
    (h : GAt ⟨w, B⟩ G vm (.slice (some ⟨C, 0, none⟩) nc cap) vs ms cs ss w) (h1 : ms.map aM = st.ms) (h2 : cs.map aR = st.cs) (h3 : ss.map aS = st.ss) (hnm : ms.length = nm) (hnc : cs.length = nc) (hr : cs[c]? = some r) (hI : InM st) (ht : tot st ≤ 1000) (hN : r.q.length = N) :
    Calls Try.prog 13 #[.pointer (some ⟨G, 0, none⟩), .int .i64 c, .int .i64 ch, .bool true] w (SigPost G B w (sigN c 0 st N).1 0 (sigN c 0 st N).2) := by
  have hcl : c < nc := by rw [← hnc]; exact (List.getElem?_eq_some_iff.1 hr).1
  have hqc : st.cs[c]? = some r.q := by rw [← h2, List.getElem?_map, hr]; rfl
  have HR : Hid (∀ k, k ≤ N → ∃ qk, (sigN c 0 st k).2.cs[c]? = some qk ∧ qk.length + k = r.q.length ∧ InM (sigN c 0 st k).2 ∧ tot (sigN c 0 st k).2 ≤ 1000) := fun k hk => by
    obtain ⟨qk, s1, s2, s3, s4⟩ := sigN_row (ch := 0) hI hqc k (by omega)
    exact ⟨qk, s1, s2, s3, Nat.le_trans s4 ht⟩
  have HS0 : Hid (SRel w G B vm (.slice (some ⟨C, 0, none⟩) nc cap) vs nm nc ss st c 0 0 (.slice none 0 0) w) :=
    ⟨B, ms, cs, h, Turn.refl _ _, hnm, hnc, h1, h2, World.ownsRow_nil _ _ _ _, fun k hk => by simp [Value.ownBlock] at hk⟩
  have c1 : w.cell? ⟨G, 1, none⟩ = some (.slice (some ⟨C, 0, none⟩) nc cap) := cell_of_block h.head (o := 1) rfl
  have hget := Lib.hid (getC_in c c1 hcl)
  have oc := h.oc
  rw [hnc] at oc
  have z0 := rw_cells hnc oc hr
  obtain ⟨A, capr, hv, _⟩ := own_len (h.rc hr)
  rw [hv] at z0
  obtain ⟨L, hL⟩ : ∃ L, r.q.length = L := ⟨_, rfl⟩
  rw [hL] at z0 hN HR
  have HN : Hid (N ≤ 1000) := by
    have := (tot_short ht).2.1 _ (List.mem_of_getElem? hqc)
    show N ≤ 1000
    omega
  obtain rfl : N = L := hN.symm
  have H3 := Lib.hid h3
  clear h h1 h2 h3 hnm hnc hr hI ht c1 oc hv hqc hL
  go_enter Try.func13, Try.ntmps13
  go_wp2_with fail
  refine hget.out.mono ?_
  rintro e w1 ⟨rfl, rfl⟩
  go_wp2_with fail
  go_loopw [12, 33] (fun u i wr => ∃ (k : Nat), k ≤ N ∧ i = .int .i64 k ∧ SRel w G B vm (.slice (some ⟨C, 0, none⟩) nc cap) vs nm nc ss st c 0 k u wr) (fun _ i _ => N - (intOf i).toNat)
  case atStart => exact ⟨0, Nat.zero_le _, rfl, HS0.out⟩
  case round =>
    obtain ⟨k, hk, rfl, hm⟩ := hrel
    have HM := Lib.hid hm
    clear hm
    by_cases hlt : k < N
    · obtain ⟨Bk, ms', cs', hg, ht, l1, l2, e1, e2, ho, hu⟩ := HM.out
      obtain ⟨qk, s1, s2, s3, s4⟩ := HR.out k (by omega)
      have hal := at_lt 0 (n := qk.length) (by omega)
      obtain ⟨y, hy⟩ : ∃ y, qk[at_ 0 qk.length]? = some y := ⟨_, List.getElem?_eq_getElem hal⟩
      have hyr := s3 qk (List.mem_of_getElem? s1) y (List.mem_of_getElem? hy)
      obtain ⟨y1, y2⟩ := y
      simp only [] at hyr
      obtain ⟨m, rfl⟩ : ∃ m : Nat, y2 = (m : Int) := ⟨y2.toNat, by omega⟩
      obtain ⟨xa, hxa⟩ : ∃ x, (sigN c 0 st k).2.ms[m]? = some x := ⟨_, List.getElem?_eq_getElem (by omega)⟩
      obtain ⟨x, hx, rfl⟩ : ∃ x, ms'[m]? = some x ∧ aM x = xa := by
        rw [← e1, List.getElem?_map, Option.map_eq_some_iff] at hxa
        exact hxa
      obtain ⟨r, hr, rfl⟩ : ∃ r, cs'[c]? = some r ∧ aR r = qk := by
        rw [← e2, List.getElem?_map, Option.map_eq_some_iff] at s1
        exact s1
      have hst := Lib.hid (sigStep_eq (ch := 0) s1 hy hxa)
      have hsh := tot_short s4
      have hlx : x.q.length ≤ 1000000 := by have := hsh.1 _ (List.mem_of_getElem? hxa); show (aM x).q.length ≤ _; omega
      have hlr : r.q.length ≤ 1000000 := by have := hsh.2.1 _ (List.mem_of_getElem? s1); show (aR r).length ≤ _; omega
      have hmm : m < nm := by rw [← l1]; exact (List.getElem?_eq_some_iff.1 hx).1
      subst l1
      subst l2
      have htk := Lib.hid (takeC 0 hg hr hy hlr)
      obtain ⟨M, capM, hvm⟩ : ∃ M capM, vm = .slice (some ⟨M, 0, none⟩) ms'.length capM := by
        obtain ⟨A, capM, e, hA⟩ := own_len hg.om
        obtain ⟨M, rfl⟩ := hA (by omega)
        exact ⟨M, capM, e⟩
      subst hvm
      have Ho := Lib.hid ho
      have Hu := Lib.hid hu
      have Hx := Lib.hid hx
      have E1 := Lib.hid e1
      have E2 := Lib.hid e2
      have Ht := Lib.hid ht
      have Hmm := Lib.hid hmm
      have Hlx := Lib.hid hlx
      have hk0 : (0 : Int) ≤ (k : Int) := by omega
      have hkN : (k : Int) < (N : Int) := by omega
      have hwk : IntKind.i64.wrap ((k : Int) + 1) = (k : Int) + 1 := by have := HN.out; rw [IntKind.wrap_i64]; omega
      clear hg ht e1 e2 ho hu s1 s2 s3 s4 hal hy hyr hxa hx hr hsh hlx hlr hmm
      go_wp2_with fail
      refine htk.out.mono ?_
      rintro e w1 ⟨rfl, cs1, g1, lc1, ec1⟩
      have G1 := Lib.hid g1
      have LC1 := Lib.hid lc1
      have EC1 := Lib.hid ec1
      have T1 := Lib.hid (Ht.out.trans g1.turn)
      have Bl1 := Lib.hid g1.blt
      have O1 : Hid (Own w1 3 1 u12 (sigN c 0 st k).1.length ((sigN c 0 st k).1.map encI)) := Ho.out.keeps g1.kp (fun b hb => (Hu.out b hb).2)
      have U1 : Hid (∀ b, u12.ownBlock = some b → w.heap.size ≤ b ∧ ¬ gB G (.slice (some ⟨M, 0, none⟩) ms'.length capM) (.slice (some ⟨C, 0, none⟩) cs'.length cap) vs ms' cs1 ss b) := fun b hb => ⟨(Hu.out b hb).1, fun e => by
        rcases g1.turn.new b e with h1 | h1
        · exact (Hu.out b hb).2 h1
        · have := Ho.out.lt b hb
          simp only [] at h1
          omega⟩
      clear g1 lc1 ec1 htk Ho Hu
      go_upto_region 11 with fail
      generalize hW : World.alloc w1 _ = w2
      have k2 : Keeps NoBlock w1 w2 := by rw [← hW]; exact (Keeps.refl _ _).alloc _
      have G2 := Lib.hid (G1.out.move k2.drew (fun _ e => e.elim))
      have T2 := Lib.hid (T1.out.step k2.drew (fun _ e => e.elim))
      have O2 := Lib.hid (O1.out.keeps k2.drew (fun _ _ e => e))
      have hs12 : Hid (w1.heap.size < w2.heap.size) := by show _ < _; rw [← hW, World.size_alloc]; omega
      have b2 : w2.heap[w1.heap.size]? = some (.cells #[.int .i64 y1, .int .i64 m] 76 (0, 0)) := by rw [← hW]; exact block_alloc_new _ _
      have t0 : w2.cell? ⟨w1.heap.size, 0, none⟩ = some (.int .i64 y1) := cell_of_block (o := 0) b2 rfl
      have t1 : w2.cell? ⟨w1.heap.size, 1, none⟩ = some (.int .i64 m) := cell_of_block (o := 1) b2 rfl
      have cG : w2.cell? ⟨G, 0, none⟩ = some (.slice (some ⟨M, 0, none⟩) ms'.length capM) := cell_of_block G2.out.head (o := 0) rfl
      have hm0 : (0 : Int) ≤ (m : Int) := by omega
      have hmn : (m : Int) < (ms'.length : Int) := by have := Hmm.out; omega
      have hlk := Lib.hid (lock_any y1 G2.out Hx.out Hlx.out)
      have B2 := Lib.hid b2
      clear hW k2 b2
      go_still_tail 9, (by kernel_rfl)
      go_wp2_with fail
      refine hlk.out.mono ?_
      rintro e w3 ⟨rfl, ms3, g3, lm3, em3⟩
      have hms3 : Hid (ms3.map aM = (sigN c 0 st (k + 1)).2.ms) := by
        show ms3.map aM = (sigStep c 0 (sigN c 0 st k)).2.ms
        rw [hst.out, em3, E1.out]; rfl
      have hcs3 : Hid (cs1.map aR = (sigN c 0 st (k + 1)).2.cs) := by
        show cs1.map aR = (sigStep c 0 (sigN c 0 st k)).2.cs
        rw [hst.out, EC1.out, E2.out]; rfl
      have hout3 : Hid ((sigN c 0 st (k + 1)).1 = (sigN c 0 st k).1 ++ (if x.held then [] else [y1])) := by
        show (sigStep c 0 (sigN c 0 st k)).1 = _
        rw [hst.out]; rfl
      have b3 : w3.heap[w1.heap.size]? = some (.cells #[.int .i64 y1, .int .i64 m] 76 (0, 0)) := (g3.kp.block _ hs12.out (fun e => Nat.lt_irrefl _ (Bl1.out _ e))).trans B2.out
      have O3 : Hid (Own w3 3 1 u12 (sigN c 0 st k).1.length ((sigN c 0 st k).1.map encI)) := O2.out.keeps g3.kp (fun b hb => (U1.out b hb).2)
      have T3 := Lib.hid (T2.out.trans g3.turn)
      have U3 : Hid (∀ b, u12.ownBlock = some b → w.heap.size ≤ b ∧ ¬ gB G (.slice (some ⟨M, 0, none⟩) ms'.length capM) (.slice (some ⟨C, 0, none⟩) cs'.length cap) vs ms3 cs1 ss b) := fun b hb => ⟨(U1.out b hb).1, fun e => by
        rcases g3.turn.new b e with h1 | h1
        · exact (U1.out b hb).2 h1
        · have := O2.out.lt b hb
          simp only [] at h1
          omega⟩
      have G3 := Lib.hid g3
      have LM3 := Lib.hid lm3
      have hsr : Hid (∀ k' u W K, Keeps K w3 W → (∀ b, K b → w.heap.size ≤ b ∧ ¬ gB G (.slice (some ⟨M, 0, none⟩) ms'.length capM) (.slice (some ⟨C, 0, none⟩) cs'.length cap) vs ms3 cs1 ss b) → k' = k + 1 → Own W 3 1 u (sigN c 0 st k').1.length ((sigN c 0 st k').1.map encI) → (∀ b, u.ownBlock = some b → w.heap.size ≤ b ∧ ¬ gB G (.slice (some ⟨M, 0, none⟩) ms'.length capM) (.slice (some ⟨C, 0, none⟩) cs'.length cap) vs ms3 cs1 ss b) →
          SRel w G B (.slice (some ⟨M, 0, none⟩) ms'.length capM) (.slice (some ⟨C, 0, none⟩) cs'.length cap) vs ms'.length cs'.length ss st c 0 k' u W) := fun k' u W K kW hK e ho hu => by
        subst e
        exact ⟨_, ms3, cs1, G3.out.move kW (fun b hb => (hK b hb).2), T3.out.step kW (fun b hb => (hK b hb).1), LM3.out, LC1.out, hms3.out, hcs3.out, ho, hu⟩
      have Bl3 := Lib.hid g3.blt
      have hsw3 : Hid (w.heap.size ≤ w3.heap.size) := T3.out.kp.size
      obtain ⟨xs, hxs⟩ : ∃ xs, (sigN c 0 st k).1 = xs := ⟨_, rfl⟩
      rw [hxs] at O3 hout3
      obtain ⟨A5, c5, rfl⟩ := Own.isSlice O3.out
      have z3 : w3.cell? ⟨w1.heap.size, 0, none⟩ = some (.int .i64 y1) := cell_of_block (o := 0) b3 rfl
      have hxl : xs.length ≤ 1000 := by rw [← hxs]; exact Nat.le_trans (sigN_out k) (by have := HN.out; omega)
      clear g3 lm3 em3 hlk hst HM HS0 Ht cG t0 t1 G1 G2 T1 T2 O1 O2 U1 B2 b3 hms3 hcs3 E1 E2 hxs EC1 Bl1
      cases hh : x.held with
      | true =>
        rw [hh] at hout3
        clear hh
        go_wp2_with fail
        refine ⟨⟨k + 1, by omega, by simp, hsr.out _ _ _ NoBlock (Keeps.refl _ _) (fun _ e => e.elim) rfl ?_ U3.out⟩, by simp [intOf]; omega⟩
        rw [hout3.out]
        simp only [if_true, List.append_nil]
        exact O3.out
      | false =>
        rw [hh] at hout3
        clear hh
        go_wp2_with (first
          | (at_builtin; refine wpList_app1 eI _ rfl _ _ rfl (.slice A5 xs.length c5) _ _ rfl O3.out [.int .i64 y1] 3 _ rfl (by simp) rfl (by simp [Value.oneCell']) (by omega) (by decide) ?_; intro g1 cap1 w4 hown1 hk1 hfr1))
        refine ⟨⟨k + 1, by omega, by simp, hsr.out _ _ _ _ hk1 (fun b hb => U3.out b hb) rfl ?_ (fun b hb => ?_)⟩, by simp [intOf]; omega⟩
        · rw [hout3.out]
          simp only [Bool.false_eq_true, if_false, List.length_append, List.length_singleton, List.map_append]
          exact hown1
        · simp only [Value.ownBlock, Option.some.injEq] at hb
          subst hb
          rcases hfr1 with h1 | h1
          · exact U3.out _ h1
          · exact ⟨by have := hsw3.out; omega, fun e => by have := Bl3.out _ e; omega⟩
    · obtain rfl : k = N := by omega
      obtain ⟨Bk, ms', cs', hg, ht, l1, l2, e1, e2, ho, hu⟩ := HM.out
      obtain ⟨A5, c5, rfl⟩ := Own.isSlice ho
      clear hg ht e1 e2 ho hu l1 l2
      go_wp2_with fail
      go_ret2
      exact HM.out.fin H3.out (sigN_ss _)

theorem signal_out {w : World} {G : Nat} (c ch : Int) (all : Bool) (h : Calls Try.prog 29 #[.pointer (some ⟨G, 0, none⟩), .int .i64 c] w fun e w' => e = .returned (.pointer none) ∧ w = w') :
    Calls Try.prog 13 #[.pointer (some ⟨G, 0, none⟩), .int .i64 c, .int .i64 ch, .bool all] w fun e w' => e = .returned (.tuple #[.slice none 0 0, .int .i64 1]) ∧ w = w' := by
  have H := Lib.hid h
  clear h
  go_enter Try.func13, Try.ntmps13
  go_wp2_with fail
  refine H.out.mono ?_
  rintro e w1 ⟨rfl, rfl⟩
  go_wp2_with fail
  go_ret2
  exact ⟨rfl, rfl⟩

theorem Signal_fn {G : Nat} {B : Nat → Prop} {st : St} {w : World} (h : Gs G B st w) (hI : InM st) (ht : tot st ≤ 1000) (c ch : Int) (all : Bool) :
    Calls Try.prog 13 #[.pointer (some ⟨G, 0, none⟩), .int .i64 c, .int .i64 ch, .bool all] w (SigPost G B w (SignalA st c ch all).1 (SignalA st c ch all).2.1 (SignalA st c ch all).2.2) := by
  obtain ⟨vm, vc, vs, ms, cs, ss, hg, h1, h2, h3⟩ := h.out
  cases hc : nth st.cs c with
  | none =>
    refine (signal_out c ch all (getC_out c (cell_of_block hg.head (o := 1) rfl) (vc_slice hg) (nth_out h2 hc))).mono ?_
    rintro e w' ⟨rfl, rfl⟩
    rw [SignalA, hc]
    exact ⟨_, B, rfl, h, Turn.refl _ _, World.ownsRow_nil _ _ _ _, fun b hb => by simp [Value.ownBlock] at hb⟩
  | some q =>
    obtain ⟨k, r, rfl, hr, rfl, hx⟩ := nth_in h2 hc
    obtain ⟨A, cap, rfl, hA⟩ := own_len hg.oc
    have hl := (List.getElem?_eq_some_iff.1 hr).1
    obtain ⟨C, rfl⟩ := hA (by omega)
    rw [SignalA, hc]
    simp only [Int.toNat_natCast]
    cases all with
    | true =>
      rw [if_pos rfl]
      exact signal_all ch hg h1 h2 h3 rfl rfl hr hI ht rfl
    | false =>
      rw [if_neg (by simp)]
      exact signal_one ch hg h1 h2 h3 rfl rfl hr hI ht rfl

end Gt
end Go.Proofs.Ytlgolofcpokndaa
