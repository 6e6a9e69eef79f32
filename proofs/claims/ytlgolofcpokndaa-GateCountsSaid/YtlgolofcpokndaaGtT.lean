/- GateCounts: of a semaphore just as many go on as it had, and were given to it. -/
import Derived.Test.YtlgolofcpokndaaGtR
import Derived.Test.YtlgolofcpokndaaOpens2
import Derived.Test.YtlgolofcpokndaaOpens3
namespace Go.Proofs.Ytlgolofcpokndaa
open Go.RowKit Go.ChangeShapes Go.WideShapes
namespace Gt

def encB (b : Bool) : List Value := [.bool b]
theorem encB_len (b : Bool) : (encB b).length = 1 := rfl

section
variable {H : Type} {enc0 : TypeId × Value → H} {W : World} {base : Nat} {spare : Nat → Bool} {held : Bool}

def BoolsAt (W : World) (v : Value) (l : List Bool) : Prop := Rd encB 1 W v l ∧ l.length ≤ 1000000000000000

set_option maxRecDepth 100000 in
theorem bools_arg {ts : List TypeId} {ds : List (DataW H)} {j : Nat} {v : Value} {d : DataW H} {ps : List MemPlace} {r : Reach} {b0 : Nat} (hsz : (DataW.weightsEach Try.prog ts ds).all (· ≤ reachBytes) = true) (ht : ts[j]? = some 41) (hd : ds[j]? = some d)
    (hv : Value.okWide Try.prog W r b0 41 v) (h : DataW.Trod enc0 Try.prog W base spare held 41 v d ps) : ∃ l, BoolsAt W v l := by
  obtain ⟨a, len, cap, rfl⟩ := okWide_slice Try.underlying41 hv
  obtain ⟨l, hl⟩ := opens_arg hsz ht hd h (opens_slice (sz := 1) (B := 1) Try.underlying41 (by kernel_rfl) (by decide) (by kernel_rfl) (opens_bool Try.underlying4))
  have hb : l.length * 1 ≤ 140737488351232 := by
    obtain ⟨_, _, _, _, _, _, hb, _⟩ := hl
    exact hb
  exact ⟨l, rd_of_sl hl (by decide) encB_len, by omega⟩
end

/-- Gates that lie in blocks that are new since w. -/
def Gw (w : World) (G : Nat) (st : St) (wr : World) : Prop := ∃ B, Gs G B st wr ∧ Turn NoBlock B w wr

theorem Gw.kp {w wr : World} {G : Nat} {st : St} (h : Gw w G st wr) : Keeps NoBlock w wr := by
  obtain ⟨B, _, t⟩ := h
  exact t.kp

theorem Gw.post {w wr w' : World} {G : Nat} {st' : St} {B : Nat → Prop} {r e : Ending} (t : Turn NoBlock B w wr) (h : Post G B wr r st' e w') : e = r ∧ Gw w G st' w' := by
  obtain ⟨he, B', hg, ht⟩ := h
  exact ⟨he, B', hg, t.trans ht⟩

theorem Gw.keeps {w wr w' : World} {G : Nat} {st : St} (h : Gw w G st wr) (k : Keeps NoBlock wr w') : Gw w G st w' := by
  obtain ⟨B, hg, t⟩ := h
  exact ⟨B, hg.keeps k (fun _ e => e.elim), t.trans (Turn.keeps k)⟩

/-- One semaphore alone. -/
abbrev sem1 (c : Int) (q : List Wt) : St := ⟨[], [], [(c, q)]⟩

theorem sem1_short {c : Int} {q : List Wt} (h : q.length ≤ 1000) : ShortA 1000000 (sem1 c q) ∧ ShortA 10000 (sem1 c q) :=
  ⟨⟨(fun x hx => by simp at hx), (fun x hx => by simp at hx), (fun x hx => by simp at hx; subst hx; simp only []; omega)⟩, ⟨(fun x hx => by simp at hx), (fun x hx => by simp at hx), (fun x hx => by simp at hx; subst hx; simp only []; omega)⟩⟩

theorem up_q {w wr : World} {G : Nat} {c : Int} {q : List Wt} (h : Gw w G (sem1 c q) wr) (hq : 0 < q.length) (hl : q.length ≤ 1000) (h0 : 0 ≤ c) (h1 : c ≤ 1000) (ch : Int) :
    ∃ n q', q'.length + 1 = q.length ∧ (∀ y ∈ q', y ∈ q) ∧ Calls Try.prog 15 #[.pointer (some ⟨G, 0, none⟩), .int .i64 0, .int .i64 ch] wr fun e w' => e = ret3 n true 0 ∧ Gw w G (sem1 c q') w' := by
  obtain ⟨B, hg, t⟩ := h
  have hal := at_lt ch hq
  obtain ⟨y, hy⟩ : ∃ y, q[at_ ch q.length]? = some y := ⟨_, List.getElem?_eq_getElem hal⟩
  refine ⟨y.1, q.eraseIdx (at_ ch q.length), ?_, fun y hy => List.mem_of_mem_eraseIdx hy, (Up_at hg (sem1_short hl).1 (fun x hx => by simp at hx; subst hx; simp only []; omega) 0 ch (st' := sem1 c (q.eraseIdx (at_ ch q.length))) ?_).mono (fun e w' he => Gw.post t he)⟩
  · rw [List.length_eraseIdx_of_lt hal]; omega
  · simp [UpA, nth, hy]

theorem up_0 {w wr : World} {G : Nat} {c : Int} (h : Gw w G (sem1 c []) wr) (h0 : 0 ≤ c) (h1 : c ≤ 1000) (ch : Int) :
    Calls Try.prog 15 #[.pointer (some ⟨G, 0, none⟩), .int .i64 0, .int .i64 ch] wr fun e w' => e = ret3 0 false 0 ∧ Gw w G (sem1 (c + 1) []) w' := by
  obtain ⟨B, hg, t⟩ := h
  refine (Up_at hg (sem1_short (by simp)).1 (fun x hx => by simp at hx; subst hx; simp only []; omega) 0 ch (st' := sem1 (c + 1) []) ?_).mono (fun e w' he => Gw.post t he)
  simp [UpA, nth]
  omega

theorem not_waits {c : Int} {q : List Wt} {who : Int} (h : ∀ y ∈ q, y.1 < who) : waitsA (sem1 c q) who = false := by
  simp only [waitsA, List.any_nil, Bool.false_or, List.any_cons, Bool.or_false]
  unfold hasB
  rw [List.any_eq_false]
  intro y hy
  have := h y hy
  simp
  omega

theorem down_0 {w wr : World} {G : Nat} {q : List Wt} {who : Int} (h : Gw w G (sem1 0 q) wr) (hl : q.length ≤ 1000) (hw : ∀ y ∈ q, y.1 < who) :
    Calls Try.prog 14 #[.pointer (some ⟨G, 0, none⟩), .int .i64 who, .int .i64 0] wr fun e w' => e = ret2 false 0 ∧ Gw w G (sem1 0 (q ++ [(who, 0)])) w' := by
  obtain ⟨B, hg, t⟩ := h
  refine (Down_at hg (sem1_short hl).1 (fun x hx => by simp at hx; subst hx; simp) who 0 (st' := sem1 0 (q ++ [(who, 0)])) ?_).mono (fun e w' he => Gw.post t he)
  simp [DownA, nth, not_waits hw]

theorem down_1 {w wr : World} {G : Nat} {c : Int} {who : Int} (h : Gw w G (sem1 c []) wr) (h0 : 0 < c) (h1 : c ≤ 1000) :
    Calls Try.prog 14 #[.pointer (some ⟨G, 0, none⟩), .int .i64 who, .int .i64 0] wr fun e w' => e = ret2 true 0 ∧ Gw w G (sem1 (c - 1) []) w' := by
  obtain ⟨B, hg, t⟩ := h
  refine (Down_at hg (sem1_short (by simp)).1 (fun x hx => by simp at hx; subst hx; simp only []; omega) who 0 (st' := sem1 (c - 1) []) ?_).mono (fun e w' he => Gw.post t he)
  have hw : waitsA (sem1 c []) who = false := not_waits (by simp)
  simp [DownA, nth, hw, h0]

theorem count_1 {w wr : World} {G : Nat} {c : Int} {q : List Wt} (h : Gw w G (sem1 c q) wr) : Calls Try.prog 18 #[.pointer (some ⟨G, 0, none⟩), .int .i64 0] wr fun e w' => e = .returned (.int .i64 c) ∧ wr = w' := by
  obtain ⟨B, hg, t⟩ := h
  exact Count_fn hg 0

theorem waiters_1 {w wr : World} {G : Nat} {c : Int} {q : List Wt} (h : Gw w G (sem1 c q) wr) (hl : q.length ≤ 1000) : Calls Try.prog 16 #[.pointer (some ⟨G, 0, none⟩), .int .i64 3, .int .i64 0] wr fun e w' => ∃ u, e = .returned u ∧ Mine wr w' 3 1 u (q.map Prod.fst).length ((q.map Prod.fst).map encI) := by
  obtain ⟨B, hg, t⟩ := h
  exact Waiters_fn hg (sem1_short hl).2 3 0

/-- Behind k things done. -/
structure CRel (w : World) (G : Nat) (k : Nat) (given gone : Int) (wr : World) : Prop where
  ok : ∃ c q, Gw w G (sem1 c q) wr ∧ given = gone + c ∧ 0 ≤ gone ∧ given ≤ 4 + k ∧ 0 ≤ c ∧ (c = 0 ∨ q = []) ∧ q.length ≤ k ∧ ∀ y ∈ q, y.1 < (k : Int)

set_option maxRecDepth 100000 in
set_option maxHeartbeats 1000000 in
theorem counts_calls (s : Int) (hs0 : 0 ≤ s) (v : Value) (l : List Bool) (ch : Int) (w : World) (hv : BoolsAt w v l) :
    Calls Try.prog 4 #[.int .u8 s, v, .int .i64 ch] w fun e w' => e = .returned (.bool true) ∧ Below w.heap.size w w' := by
  obtain ⟨⟨A, b, off, cap, rfl, hA, hcl⟩, hl15⟩ := hv
  obtain ⟨z, hz⟩ : ∃ z, s.tmod 5 = z := ⟨_, rfl⟩
  have hz0 : 0 ≤ z ∧ z ≤ 4 := by
    rw [← hz, Int.tmod_eq_emod_of_nonneg hs0]
    omega
  obtain ⟨hz0, hz4⟩ := hz0
  have hzu : IntKind.u8.wrap z = z := by
    show z % 256 = z
    omega
  have hzi : IntKind.i64.wrap z = z := by rw [IntKind.wrap_i64]; omega
  have hrd := Lib.hid hcl
  have HA := Lib.hid hA
  clear hcl hA
  go_enter Try.func4, Try.ntmps4
  go_wp2_with fail
  refine (New_fn 0 0 0 0 (by decide) (by decide) (some ⟨w.heap.size, 0, none⟩) w.heap.size 0 1 1 _ [z] (litI (WalkArith.wf_i64 (by omega)) (block_alloc_new w (.cells #[.int .i64 z] 3))) (Nat.le_refl _)).mono ?_
  rintro e w1 ⟨G, B1, rfl, g1, t1⟩
  have hst : begin_ 0 0 [z] = sem1 z [] := by
    have h1 : min (max z 0) 1048576 = z := by omega
    simp [begin_, h1]
  rw [hst] at g1
  have T1 : Hid (Turn NoBlock B1 w w1) := (Turn.keeps ((Keeps.refl NoBlock w).alloc _)).trans t1
  have H1 : Hid (CRel w G 0 z 0 w1) := ⟨z, [], ⟨B1, g1, T1.out⟩, by omega, by omega, by omega, hz0, .inr rfl, Nat.le_refl _, fun y hy => by cases hy⟩
  clear hst g1 t1 T1
  go_wp2_with fail
  go_loopw [8, 9, 10] (fun u8 u9 i wr => ∃ (k : Nat) (given gone : Int), k ≤ 80 ∧ k ≤ l.length ∧ i = .int .i64 k ∧ u8 = .int .i64 given ∧ u9 = .int .i64 gone ∧ CRel w G k given gone wr) (fun _ _ i _ => 80 - (intOf i).toNat)
  case atStart => exact ⟨0, z, 0, by omega, by omega, rfl, rfl, rfl, H1.out⟩
  case round =>
    obtain ⟨k, given, gone, hk, hkl, rfl, rfl, rfl, hm⟩ := hrel
    obtain ⟨c, q, hg, e1, e2, e3, e4, e5, e6, e7⟩ := hm.ok
    have HG := Lib.hid hg
    have E5 := Lib.hid e5
    have E7 := Lib.hid e7
    have hwk : IntKind.i64.wrap ((k : Int) + 1) = (k : Int) + 1 := by rw [IntKind.wrap_i64]; omega
    have hwg : IntKind.i64.wrap (given + 1) = given + 1 := by rw [IntKind.wrap_i64]; omega
    have hwn : IntKind.i64.wrap (gone + 1) = gone + 1 := by rw [IntKind.wrap_i64]; omega
    have hgk := Lib.hid hg.kp
    clear hg hm H1 e5 e7
    by_cases hlt : k < l.length ∧ k < 80
    · obtain ⟨hlt, hlt2⟩ := hlt
      obtain ⟨x, hx⟩ : ∃ x, l[k]? = some x := ⟨_, List.getElem?_eq_getElem hlt⟩
      obtain ⟨rfl, hbw⟩ := HA.out (by omega)
      have hcx := (hgk.out.cell hbw (fun e => e)).trans (hrd.out k x 0 _ hx rfl)
      rw [Nat.mul_one, Nat.add_zero] at hcx
      have hk0 : (0 : Int) ≤ (k : Int) := by omega
      have hk1 : (k : Int) < (l.length : Int) := by omega
      have hk2 : (k : Int) < 80 := by omega
      clear hx
      cases x with
      | true =>
        by_cases hq : 0 < q.length
        · have hc0 : c = 0 := by
            rcases E5.out with h | h
            · exact h
            · rw [h] at hq; simp at hq
          subst hc0
          obtain ⟨n, q', l1, l2, hup⟩ := up_q HG.out hq (by omega) (by omega) (by omega) ch
          have Hup := Lib.hid hup
          have L2 := Lib.hid l2
          clear hup l2
          go_wp2_with fail
          refine Hup.out.mono ?_
          rintro e w2 ⟨rfl, g2⟩
          have G2 := Lib.hid g2
          clear g2
          go_wp2_with fail
          exact ⟨⟨k + 1, _, _, by omega, by omega, by simp, rfl, rfl, 0, q', G2.out, by omega, by omega, by omega, by omega, .inl rfl, by omega, fun y hy => by have := E7.out y (L2.out y hy); omega⟩, by simp [intOf]; omega⟩
        · obtain rfl : q = [] := List.eq_nil_of_length_eq_zero (by omega)
          have hup := up_0 HG.out e4 (by omega) ch
          have Hup := Lib.hid hup
          clear hup
          go_wp2_with fail
          refine Hup.out.mono ?_
          rintro e w2 ⟨rfl, g2⟩
          have G2 := Lib.hid g2
          clear g2
          go_wp2_with fail
          exact ⟨⟨k + 1, _, _, by omega, by omega, by simp, rfl, rfl, c + 1, [], G2.out, by omega, by omega, by omega, by omega, .inr rfl, by simp, fun y hy => by cases hy⟩, by simp [intOf]; omega⟩
      | false =>
        by_cases hc : 0 < c
        · obtain rfl : q = [] := by
            rcases E5.out with h | h
            · omega
            · exact h
          have hup := down_1 (who := (k : Int)) HG.out hc (by omega)
          have Hup := Lib.hid hup
          clear hup
          go_wp2_with fail
          refine Hup.out.mono ?_
          rintro e w2 ⟨rfl, g2⟩
          have G2 := Lib.hid g2
          clear g2
          go_wp2_with fail
          exact ⟨⟨k + 1, _, _, by omega, by omega, by simp, rfl, rfl, c - 1, [], G2.out, by omega, by omega, by omega, by omega, .inr rfl, by simp, fun y hy => by cases hy⟩, by simp [intOf]; omega⟩
        · have hc0 : c = 0 := by omega
          subst hc0
          have hup := down_0 (who := (k : Int)) HG.out (by omega) E7.out
          have Hup := Lib.hid hup
          clear hup
          go_wp2_with fail
          refine Hup.out.mono ?_
          rintro e w2 ⟨rfl, g2⟩
          have G2 := Lib.hid g2
          clear g2
          go_wp2_with fail
          exact ⟨⟨k + 1, _, _, by omega, by omega, by simp, rfl, rfl, 0, q ++ [((k : Int), 0)], G2.out, by omega, by omega, by omega, by omega, .inl rfl, by simp; omega, fun y hy => by
            rcases List.mem_append.1 hy with h | h
            · have := E7.out y h; omega
            · simp at h; subst h; simp only []; omega⟩, by simp [intOf]; omega⟩
    · have HGk := HG.out
      have fin : Hid (∀ W e, Keeps NoBlock wr W → e = Ending.returned (.bool true) → e = Ending.returned (.bool true) ∧ Below w.heap.size w W) := fun W e k he => ⟨he, (hgk.out.trans k (fun _ _ e => e)).below (Nat.le_refl _) (fun _ e => e.elim)⟩
      have hwd : IntKind.i64.wrap (gone + c - gone) = c := by rw [IntKind.wrap_i64]; omega
      have hwd2 : ((gone + c - gone) == c) = true := by simp; omega
      rcases Nat.lt_or_ge k l.length with hlt1 | hge1
      · have hk1 : (k : Int) < (l.length : Int) := by omega
        have hk2 : (80 : Int) ≤ (k : Int) := by omega
        go_wp2_with fail
        refine (awake_calls _).mono ?_
        rintro e w6 ⟨rfl, k6⟩
        have H6 := Lib.hid (HG.out.keeps k6)
        have K6 := Lib.hid k6
        clear k6
        go_wp2_with fail
        refine (count_1 H6.out).mono ?_
        rintro e w7 ⟨rfl, rfl⟩
        rcases Classical.em (c = 0) with hc0 | hc0
        · have hcb : (c == 0) = true := by rw [hc0]; rfl
          clear hc0
          go_wp2_with fail
          refine (count_1 H6.out).mono ?_
          rintro e w7 ⟨rfl, rfl⟩
          go_wp2_with fail
          go_ret
          exact fin.out _ _ K6.out rfl
        · have hcb : (c == 0) = false := by rw [beq_eq_false_iff_ne]; exact hc0
          obtain rfl : q = [] := by
            rcases E5.out with h | h
            · exact absurd h hc0
            · exact h
          clear hc0
          go_wp2_with fail
          refine (count_1 H6.out).mono ?_
          rintro e w7 ⟨rfl, rfl⟩
          go_wp2_with fail
          refine (waiters_1 H6.out (by simp)).mono ?_
          rintro e w7 ⟨u, rfl, m7⟩
          obtain ⟨A7, c7, rfl⟩ := Own.isSlice m7.own
          have K7 := Lib.hid (K6.out.trans m7.kp (fun _ _ e => e))
          clear m7
          go_wp2_with fail
          go_ret
          exact fin.out _ _ K7.out rfl
      · have hk1 : (l.length : Int) ≤ (k : Int) := by omega
        go_wp2_with fail
        refine (awake_calls _).mono ?_
        rintro e w6 ⟨rfl, k6⟩
        have H6 := Lib.hid (HG.out.keeps k6)
        have K6 := Lib.hid k6
        clear k6
        go_wp2_with fail
        refine (count_1 H6.out).mono ?_
        rintro e w7 ⟨rfl, rfl⟩
        rcases Classical.em (c = 0) with hc0 | hc0
        · have hcb : (c == 0) = true := by rw [hc0]; rfl
          clear hc0
          go_wp2_with fail
          refine (count_1 H6.out).mono ?_
          rintro e w7 ⟨rfl, rfl⟩
          go_wp2_with fail
          go_ret
          exact fin.out _ _ K6.out rfl
        · have hcb : (c == 0) = false := by rw [beq_eq_false_iff_ne]; exact hc0
          obtain rfl : q = [] := by
            rcases E5.out with h | h
            · exact absurd h hc0
            · exact h
          clear hc0
          go_wp2_with fail
          refine (count_1 H6.out).mono ?_
          rintro e w7 ⟨rfl, rfl⟩
          go_wp2_with fail
          refine (waiters_1 H6.out (by simp)).mono ?_
          rintro e w7 ⟨u, rfl, m7⟩
          obtain ⟨A7, c7, rfl⟩ := Own.isSlice m7.own
          have K7 := Lib.hid (K6.out.trans m7.kp (fun _ _ e => e))
          clear m7
          go_wp2_with fail
          go_ret
          exact fin.out _ _ K7.out rfl

theorem counts_row (w : World) (s : Int) (hs : (Lit.int .u8 s).wf = true) (v : Value) (l : List Bool) (hl : BoolsAt w v l) (ch : Int) (_hc : (Lit.int .i64 ch).wf = true) :
    Calls Try.prog 4 #[.int .u8 s, v, .int .i64 ch] w fun e w' => e = .returned (.bool true) ∧ Below w.heap.size w w' := by
  have h0 : 0 ≤ s := (by simpa [Lit.wf, IntKind.min, IntKind.max, IntKind.signed, IntKind.bits] using hs : 0 ≤ s ∧ s ≤ 255).1
  exact counts_calls s h0 v l ch w hl

end Gt
end Go.Proofs.Ytlgolofcpokndaa
