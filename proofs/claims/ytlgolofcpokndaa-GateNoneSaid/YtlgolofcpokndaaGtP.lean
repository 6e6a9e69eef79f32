/- Package gate: what gates hold, and what each call makes of that, in plain words. -/
import Derived.Test.YtlgolofcpokndaaGtJ
namespace Go.Proofs.Ytlgolofcpokndaa
open Go.RowKit

namespace Gt

structure MA where
  held : Bool
  own : Int
  q : List Wt
structure St where
  ms : List MA
  cs : List (List Wt)
  ss : List (Int × List Wt)

def aM (x : Mx) : MA := ⟨x.held, x.own, x.q⟩
def aR (x : Rw) : List Wt := x.q
def aS (x : Sm) : Int × List Wt := (x.cnt, x.q)

def nth {α : Type} (l : List α) (i : Int) : Option α := if 0 ≤ i then l[i.toNat]? else none

def waitsA (st : St) (who : Int) : Bool := (st.ms.any fun x => hasB who x.q) || (st.cs.any fun x => hasB who x) || (st.ss.any fun x => hasB who x.2)
def isA (x : MA) (who : Int) : Bool := x.held && (x.own == who)

def lockA (st : St) (m : Nat) (who : Int) : Bool × St := match st.ms[m]? with
  | none => (false, st)
  | some x => if x.held then (false, { st with ms := st.ms.set m { x with q := x.q ++ [(who, 0)] } }) else (true, { st with ms := st.ms.set m { x with held := true, own := who } })

def unlockA (st : St) (m : Nat) (c : Int) : Int × Bool × St := match st.ms[m]? with
  | none => (0, false, st)
  | some x => match x.q[at_ c x.q.length]? with
    | none => (0, false, { st with ms := st.ms.set m ⟨false, 0, x.q⟩ })
    | some y => (y.1, true, { st with ms := st.ms.set m ⟨true, y.1, x.q.eraseIdx (at_ c x.q.length)⟩ })

def LockA (st : St) (who m : Int) : Bool × Int × St := match nth st.ms m with
  | none => (false, 1, st)
  | some x => if waitsA st who || isA x who then (false, 4, st) else ((lockA st m.toNat who).1, 0, (lockA st m.toNat who).2)

def UnlockA (st : St) (who m c : Int) : Int × Bool × Int × St := match nth st.ms m with
  | none => (0, false, 1, st)
  | some x => if isA x who then ((unlockA st m.toNat c).1, (unlockA st m.toNat c).2.1, 0, (unlockA st m.toNat c).2.2) else (0, false, 5, st)

def condA (st : St) (c : Nat) (y : Wt) : St := match st.cs[c]? with
  | none => st
  | some q => { st with cs := st.cs.set c (q ++ [y]) }

def WaitA (st : St) (who c m ch : Int) : Int × Bool × Int × St := match nth st.ms m, nth st.cs c with
  | some x, some _ => if waitsA st who then (0, false, 4, st) else if isA x who then ((unlockA st m.toNat ch).1, (unlockA st m.toNat ch).2.1, 0, condA (unlockA st m.toNat ch).2.2 c.toNat (who, m)) else (0, false, 5, st)
  | _, _ => (0, false, 1, st)

def DownA (st : St) (who s : Int) : Bool × Int × St := match nth st.ss s with
  | none => (false, 1, st)
  | some x => if waitsA st who then (false, 4, st) else if 0 < x.1 then (true, 0, { st with ss := st.ss.set s.toNat (x.1 - 1, x.2) }) else (false, 0, { st with ss := st.ss.set s.toNat (x.1, x.2 ++ [(who, 0)]) })

def UpA (st : St) (s c : Int) : Int × Bool × Int × St := match nth st.ss s with
  | none => (0, false, 1, st)
  | some x => match x.2[at_ c x.2.length]? with
    | some y => (y.1, true, 0, { st with ss := st.ss.set s.toNat (x.1, x.2.eraseIdx (at_ c x.2.length)) })
    | none => if 1048576 ≤ x.1 then (0, false, 2, st) else (0, false, 0, { st with ss := st.ss.set s.toNat (x.1 + 1, x.2) })

def OwnerA (st : St) (m : Int) : Int × Bool := match nth st.ms m with
  | none => (0, false)
  | some x => (if x.held then x.own else 0, x.held)

def CountA (st : St) (s : Int) : Int := match nth st.ss s with
  | none => 0
  | some x => x.1

def WaitersA (st : St) (k n : Int) : List Int :=
  if k == 1 then ((nth st.ms n).map fun x => x.q.map Prod.fst).getD [] else if k == 2 then ((nth st.cs n).map fun x => x.map Prod.fst).getD [] else if k == 3 then ((nth st.ss n).map fun x => x.2.map Prod.fst).getD [] else []

/-- One of those that wait for a condition goes on. -/
def sigStep (c : Nat) (ch : Int) (p : List Int × St) : List Int × St := match p.2.cs[c]? with
  | none => p
  | some q => match q[at_ ch q.length]? with
    | none => p
    | some y =>
      let r := lockA { p.2 with cs := p.2.cs.set c (q.eraseIdx (at_ ch q.length)) } y.2.toNat y.1
      (p.1 ++ (if r.1 then [y.1] else []), r.2)

def sigN (c : Nat) (ch : Int) (st : St) : Nat → List Int × St
  | 0 => ([], st)
  | n + 1 => sigStep c ch (sigN c ch st n)

def SignalA (st : St) (c ch : Int) (all : Bool) : List Int × Int × St := match nth st.cs c with
  | none => ([], 1, st)
  | some q => if all then ((sigN c.toNat 0 st q.length).1, 0, (sigN c.toNat 0 st q.length).2) else ((sigN c.toNat ch st (min q.length 1)).1, 0, (sigN c.toNat ch st (min q.length 1)).2)

/-- Gates that lie in the blocks B. -/
def Gs (G : Nat) (B : Nat → Prop) (st : St) (w : World) : Prop :=
  ∃ vm vc vs ms cs ss, GAt ⟨w, B⟩ G vm vc vs ms cs ss w ∧ ms.map aM = st.ms ∧ cs.map aR = st.cs ∧ ss.map aS = st.ss

/-- Blocks that turn, or are new. -/
structure Turn (B B' : Nat → Prop) (w w' : World) : Prop where
  kp : Keeps B w w'
  new : ∀ b, B' b → B b ∨ w.heap.size ≤ b

theorem Turn.refl (B : Nat → Prop) (w : World) : Turn B B w w := ⟨Keeps.refl _ _, fun _ h => .inl h⟩
theorem Turn.trans {B B' B'' : Nat → Prop} {w w' w'' : World} (h : Turn B B' w w') (k : Turn B' B'' w' w'') : Turn B B'' w w'' :=
  ⟨h.kp.trans k.kp (fun j hj e => by
    rcases h.new j e with h1 | h1
    · exact h1
    · omega), fun b hb => by
    rcases k.new b hb with h1 | h1
    · exact h.new b h1
    · exact .inr (Nat.le_trans h.kp.size h1)⟩
theorem Turn.keeps {B : Nat → Prop} {w w' : World} (k : Keeps NoBlock w w') : Turn B B w w' := ⟨k.mono (fun _ _ e => e.elim), fun _ h => .inl h⟩

def blocksOf (G : Nat) (es : Env) : Nat → Prop := fun b => b = G ∨ ∃ p x, es p = some x ∧ x.v.ownBlock = some b

theorem Gs.of {w0 : Base} {w : World} {G : Nat} {vm vc vs : Value} {ms : List Mx} {cs : List Rw} {ss : List Sm} {st : St} (h : GAt w0 G vm vc vs ms cs ss w) (h1 : ms.map aM = st.ms) (h2 : cs.map aR = st.cs) (h3 : ss.map aS = st.ss) : ∃ B, Gs G B st w ∧ Turn w0.K B w0.w w := by
  refine ⟨blocksOf G (gateE vm vc vs ms cs ss), ⟨vm, vc, vs, ms, cs, ss, ⟨h.head, ⟨h.env.own, fun i x b hi hb => ⟨.inl (.inr ⟨i, x, hi, hb⟩), (h.env.lw i x b hi hb).2⟩, h.env.sep⟩, .inl (.inl rfl), Keeps.refl _ _, h.lm, h.lc, h.ls⟩, h1, h2, h3⟩, h.kp, ?_⟩
  rintro b (rfl | ⟨p, x, hp, hb⟩)
  · exact h.lG
  · exact (h.env.lw p x b hp hb).1

theorem Gs.keeps {G : Nat} {B K : Nat → Prop} {st : St} {w w' : World} (h : Gs G B st w) (k : Keeps K w w') (hK : ∀ b, K b → ¬ B b) : Gs G B st w' := by
  obtain ⟨vm, vc, vs, ms, cs, ss, h, h1, h2, h3⟩ := h
  have hB : ∀ b, b < w.heap.size → (Base.ok ⟨w, B⟩ b) → B b := fun b hb hk => hk.resolve_right (fun h : w.heap.size ≤ b => by omega)
  refine ⟨vm, vc, vs, ms, cs, ss, ⟨?_, ⟨fun i x hi => (h.env.own i x hi).keeps k (fun b hb e => hK b e (hB b (h.env.lt hi hb) (h.env.lw i x b hi hb).1)), fun i x b hi hb => ⟨.inl (hB b (h.env.lt hi hb) (h.env.lw i x b hi hb).1), (h.env.lw i x b hi hb).2⟩, h.env.sep⟩, .inl (hB G (lt_of_block h.head) h.lG), Keeps.refl _ _, h.lm, h.lc, h.ls⟩, h1, h2, h3⟩
  exact (k.block _ (lt_of_block h.head) (fun e => hK _ e (hB G (lt_of_block h.head) h.lG))).trans h.head

theorem Gs.out {G : Nat} {B : Nat → Prop} {st : St} {w : World} (h : Gs G B st w) : ∃ vm vc vs ms cs ss, GAt ⟨w, B⟩ G vm vc vs ms cs ss w ∧ ms.map aM = st.ms ∧ cs.map aR = st.cs ∧ ss.map aS = st.ss := h

/-- No row is longer than this. -/
def ShortA (n : Nat) (st : St) : Prop := (∀ x ∈ st.ms, x.q.length ≤ n) ∧ (∀ x ∈ st.cs, x.length ≤ n) ∧ (∀ x ∈ st.ss, x.2.length ≤ n)

theorem ShortA.short {n : Nat} {st : St} {ms : List Mx} {cs : List Rw} {ss : List Sm} (h : ShortA n st) (h1 : ms.map aM = st.ms) (h2 : cs.map aR = st.cs) (h3 : ss.map aS = st.ss) : Short n ms cs ss :=
  ⟨fun x hx => h.1 (aM x) (h1 ▸ List.mem_map_of_mem hx), fun x hx => h.2.1 (aR x) (h2 ▸ List.mem_map_of_mem hx), fun x hx => h.2.2 (aS x) (h3 ▸ List.mem_map_of_mem hx)⟩

theorem waits_eq {st : St} {ms : List Mx} {cs : List Rw} {ss : List Sm} (h1 : ms.map aM = st.ms) (h2 : cs.map aR = st.cs) (h3 : ss.map aS = st.ss) (who : Int) : waitsG ms cs ss who = waitsA st who := by
  unfold waitsG waitsA
  rw [← h1, ← h2, ← h3, List.any_map, List.any_map, List.any_map]
  rfl

theorem nth_in {α β : Type} {l : List β} {f : β → α} {l' : List α} (h : l.map f = l') {i : Int} {x : α} (hx : nth l' i = some x) : ∃ (k : Nat) (y : β), i = (k : Int) ∧ l[k]? = some y ∧ f y = x ∧ l'[k]? = some x := by
  unfold nth at hx
  split at hx
  · rename_i h0
    subst h
    have hx' := hx
    rw [List.getElem?_map, Option.map_eq_some_iff] at hx
    obtain ⟨y, hy, e⟩ := hx
    exact ⟨i.toNat, y, by omega, hy, e, hx'⟩
  · cases hx

theorem nth_out {α β : Type} {l : List β} {f : β → α} {l' : List α} (h : l.map f = l') {i : Int} (hx : nth l' i = none) : i < 0 ∨ (l.length : Int) ≤ i := by
  unfold nth at hx
  split at hx
  · rw [List.getElem?_eq_none_iff, ← h, List.length_map] at hx
    omega
  · omega

theorem map_set {α β : Type} {l : List β} {f : β → α} {l' : List α} (h : l.map f = l') (k : Nat) (y : β) : (l.set k y).map f = l'.set k (f y) := by rw [List.map_set, h]

theorem at_none {α : Type} {q : List α} {c : Int} (h : q[at_ c q.length]? = none) : q = [] := by
  by_cases h0 : q.length = 0
  · exact List.eq_nil_of_length_eq_zero h0
  · have := List.getElem?_eq_none_iff.1 h
    have := at_lt c (n := q.length) (by omega)
    omega

theorem at_some {α : Type} {q : List α} {k : Nat} {y : α} (h : q[k]? = some y) : 0 < q.length := by
  have := (List.getElem?_eq_some_iff.1 h).1
  omega

/-- What a call leaves. -/
def Post (G : Nat) (B : Nat → Prop) (w : World) (r : Ending) (st' : St) (e : Ending) (w' : World) : Prop := e = r ∧ ∃ B', Gs G B' st' w' ∧ Turn B B' w w'

theorem Post.mk {G : Nat} {B : Nat → Prop} {w w' : World} {r e : Ending} {vm vc vs : Value} {ms : List Mx} {cs : List Rw} {ss : List Sm} {st : St} (he : e = r) (h : GAt ⟨w, B⟩ G vm vc vs ms cs ss w') (h1 : ms.map aM = st.ms) (h2 : cs.map aR = st.cs) (h3 : ss.map aS = st.ss) : Post G B w r st e w' := by
  obtain ⟨B', hg, ht⟩ := Gs.of h h1 h2 h3
  exact ⟨he, B', hg, ht⟩

theorem Post.keeps {G : Nat} {B : Nat → Prop} {w w' : World} {r e : Ending} {st : St} (he : e = r) (h : Gs G B st w) (k : Keeps NoBlock w w') : Post G B w r st e w' := ⟨he, B, h.keeps k (fun _ e => e.elim), Turn.keeps k⟩

theorem Lock_fn {G : Nat} {B : Nat → Prop} {st : St} {w : World} (h : Gs G B st w) (hs : ShortA 1000000 st) (who m : Int) :
    Calls Try.prog 10 #[.pointer (some ⟨G, 0, none⟩), .int .i64 who, .int .i64 m] w (Post G B w (ret2 (LockA st who m).1 (LockA st who m).2.1) (LockA st who m).2.2) := by
  obtain ⟨vm, vc, vs, ms, cs, ss, hg, h1, h2, h3⟩ := h.out
  have hsh := hs.short h1 h2 h3
  cases hm : nth st.ms m with
  | none =>
    refine (Lock_out who m hg (nth_out h1 hm)).mono ?_
    rintro e w' ⟨rfl, rfl⟩
    rw [LockA, hm]
    exact Post.keeps rfl h (Keeps.refl _ _)
  | some x =>
    obtain ⟨k, y, rfl, hy, rfl, hx⟩ := nth_in h1 hm
    rw [LockA, hm]
    simp only []
    rw [← waits_eq h1 h2 h3 who]
    cases hb : waitsG ms cs ss who with
    | true =>
      refine (Lock_busy who hg hsh hy (.inl hb)).mono ?_
      rintro e w' ⟨rfl, k⟩
      exact Post.keeps rfl h k
    | false =>
      cases hb2 : isA (aM y) who with
      | true =>
        refine (Lock_busy who hg hsh hy (.inr ⟨hb, hb2⟩)).mono ?_
        rintro e w' ⟨rfl, k⟩
        exact Post.keeps rfl h k
      | false =>
        simp only [Bool.false_or, Bool.false_eq_true, if_false, Int.toNat_natCast, lockA, hx]
        cases hh : y.held with
        | true =>
          refine (Lock_wait who hg hsh hy hb hb2 hh).mono ?_
          rintro e w' ⟨rfl, v', hg'⟩
          rw [show (aM y).held = true from hh, if_pos rfl]
          exact Post.mk rfl hg' (by rw [List.map_set, h1]; simp [aM, hh]) h2 h3
        | false =>
          refine (Lock_take who hg hsh hy hb hh).mono ?_
          rintro e w' ⟨rfl, hg'⟩
          rw [show (aM y).held = false from hh]
          exact Post.mk rfl hg' (map_set h1 _ _) h2 h3

theorem unlock_get {x : MA} {y : Mx} (h : aM y = x) : x.q = y.q := by rw [← h]; rfl

theorem Unlock_fn {G : Nat} {B : Nat → Prop} {st : St} {w : World} (h : Gs G B st w) (hs : ShortA 1000000 st) (who m c : Int) :
    Calls Try.prog 11 #[.pointer (some ⟨G, 0, none⟩), .int .i64 who, .int .i64 m, .int .i64 c] w (Post G B w (ret3 (UnlockA st who m c).1 (UnlockA st who m c).2.1 (UnlockA st who m c).2.2.1) (UnlockA st who m c).2.2.2) := by
  obtain ⟨vm, vc, vs, ms, cs, ss, hg, h1, h2, h3⟩ := h.out
  have hsh := hs.short h1 h2 h3
  cases hm : nth st.ms m with
  | none =>
    refine (Unlock_out who m c hg (nth_out h1 hm)).mono ?_
    rintro e w' ⟨rfl, rfl⟩
    rw [UnlockA, hm]
    exact Post.keeps rfl h (Keeps.refl _ _)
  | some x =>
    obtain ⟨k, y, rfl, hy, rfl, hx⟩ := nth_in h1 hm
    rw [UnlockA, hm]
    simp only []
    cases hb2 : isA (aM y) who with
    | false =>
      refine (Unlock_no who c hg hy hb2).mono ?_
      rintro e w' ⟨rfl, rfl⟩
      exact Post.keeps rfl h (Keeps.refl _ _)
    | true =>
      simp only [if_true, Int.toNat_natCast, unlockA, hx]
      cases hq : (aM y).q[at_ c (aM y).q.length]? with
      | none =>
        refine (Unlock_none who c hg hy hb2 (at_none hq)).mono ?_
        rintro e w' ⟨rfl, hg'⟩
        exact Post.mk rfl hg' (map_set h1 _ _) h2 h3
      | some z =>
        refine (Unlock_some who c hg hy hb2 (at_some hq) hq (hs.1 _ (List.mem_of_getElem? hx))).mono ?_
        rintro e w' ⟨rfl, v', hg'⟩
        exact Post.mk rfl hg' (map_set h1 _ _) h2 h3

theorem Wait_fn {G : Nat} {B : Nat → Prop} {st : St} {w : World} (h : Gs G B st w) (hs : ShortA 1000000 st) (who c m ch : Int) :
    Calls Try.prog 12 #[.pointer (some ⟨G, 0, none⟩), .int .i64 who, .int .i64 c, .int .i64 m, .int .i64 ch] w (Post G B w (ret3 (WaitA st who c m ch).1 (WaitA st who c m ch).2.1 (WaitA st who c m ch).2.2.1) (WaitA st who c m ch).2.2.2) := by
  obtain ⟨vm, vc, vs, ms, cs, ss, hg, h1, h2, h3⟩ := h.out
  have hsh := hs.short h1 h2 h3
  have gC : ∃ b, Calls Try.prog 29 #[.pointer (some ⟨G, 0, none⟩), .int .i64 c] w (fun e w' => e = .returned (.pointer b) ∧ w = w') ∧ (nth st.cs c = none → b = none) := by
    cases hc : nth st.cs c with
    | none => exact ⟨none, getC_out c (cell_of_block hg.head (o := 1) rfl) (vc_slice hg) (nth_out h2 hc), fun _ => rfl⟩
    | some q =>
      obtain ⟨k, r, rfl, hr, rfl, hx⟩ := nth_in h2 hc
      obtain ⟨A, cap, rfl, hA⟩ := own_len hg.oc
      have hl := (List.getElem?_eq_some_iff.1 hr).1
      obtain ⟨C, rfl⟩ := hA (by omega)
      exact ⟨_, getC_in k (cell_of_block hg.head (o := 1) rfl) hl, fun e => by cases e⟩
  obtain ⟨b, gC, hbn⟩ := gC
  cases hm : nth st.ms m with
  | none =>
    refine (Wait_out who c m ch none b (getM_out m (cell_of_block hg.head (o := 0) rfl) (vm_slice hg) (nth_out h1 hm)) gC (.inl rfl)).mono ?_
    rintro e w' ⟨rfl, rfl⟩
    rw [WaitA, hm]
    exact Post.keeps rfl h (Keeps.refl _ _)
  | some x =>
    obtain ⟨k, y, rfl, hy, rfl, hx⟩ := nth_in h1 hm
    cases hc : nth st.cs c with
    | none =>
      have hml := (List.getElem?_eq_some_iff.1 hy).1
      obtain ⟨A, cap, rfl, hA⟩ := own_len hg.om
      obtain ⟨M, rfl⟩ := hA (by omega)
      refine (Wait_out who c k ch _ b (getM_in k (cell_of_block hg.head (o := 0) rfl) hml) gC (.inr ⟨_, rfl, hbn hc⟩)).mono ?_
      rintro e w' ⟨rfl, rfl⟩
      rw [WaitA, hm, hc]
      exact Post.keeps rfl h (Keeps.refl _ _)
    | some q =>
      obtain ⟨j, r, rfl, hr, rfl, hxr⟩ := nth_in h2 hc
      rw [WaitA, hm, hc]
      simp only []
      rw [← waits_eq h1 h2 h3 who]
      cases hb : waitsG ms cs ss who with
      | true =>
        refine (Wait_busy who ch hg hsh hy hr hb).mono ?_
        rintro e w' ⟨rfl, k⟩
        exact Post.keeps rfl h k
      | false =>
        cases hb2 : isA (aM y) who with
        | false =>
          refine (Wait_no who ch hg hsh hy hr hb hb2).mono ?_
          rintro e w' ⟨rfl, k⟩
          exact Post.keeps rfl h k
        | true =>
          simp only [Bool.false_eq_true, if_false, if_true, Int.toNat_natCast, unlockA, hx]
          cases hq : (aM y).q[at_ ch (aM y).q.length]? with
          | none =>
            refine (Wait_none who ch hg hsh hy hr hb hb2 (at_none hq)).mono ?_
            rintro e w' ⟨rfl, v', hg'⟩
            simp only [condA, hxr]
            exact Post.mk rfl hg' (map_set h1 _ _) (map_set h2 _ _) h3
          | some z =>
            refine (Wait_some who ch hg hsh hy hr hb hb2 (at_some hq) hq).mono ?_
            rintro e w' ⟨rfl, v', v'', hg'⟩
            simp only [condA, hxr]
            exact Post.mk rfl hg' (map_set h1 _ _) (map_set h2 _ _) h3

theorem Down_fn {G : Nat} {B : Nat → Prop} {st : St} {w : World} (h : Gs G B st w) (hs : ShortA 1000000 st) (hcnt : ∀ x ∈ st.ss, 0 ≤ x.1 ∧ x.1 ≤ 1048576) (who s : Int) :
    Calls Try.prog 14 #[.pointer (some ⟨G, 0, none⟩), .int .i64 who, .int .i64 s] w (Post G B w (ret2 (DownA st who s).1 (DownA st who s).2.1) (DownA st who s).2.2) := by
  obtain ⟨vm, vc, vs, ms, cs, ss, hg, h1, h2, h3⟩ := h.out
  have hsh := hs.short h1 h2 h3
  cases hm : nth st.ss s with
  | none =>
    refine (Down_out who s hg (nth_out h3 hm)).mono ?_
    rintro e w' ⟨rfl, rfl⟩
    rw [DownA, hm]
    exact Post.keeps rfl h (Keeps.refl _ _)
  | some x =>
    obtain ⟨k, y, rfl, hy, rfl, hx⟩ := nth_in h3 hm
    have hc := hcnt _ (List.mem_of_getElem? hx)
    rw [DownA, hm]
    simp only []
    rw [← waits_eq h1 h2 h3 who]
    cases hb : waitsG ms cs ss who with
    | true =>
      refine (Down_busy who hg hsh hy hb).mono ?_
      rintro e w' ⟨rfl, k⟩
      exact Post.keeps rfl h k
    | false =>
      rw [if_neg (by simp)]
      by_cases hp : 0 < (aS y).1
      · rw [if_pos hp]
        refine (Down_take who hg hsh hy hb hp hc.2).mono ?_
        rintro e w' ⟨rfl, hg'⟩
        exact Post.mk rfl hg' h1 h2 (map_set h3 _ _)
      · rw [if_neg hp]
        refine (Down_wait who hg hsh hy hb (show y.cnt ≤ 0 from by have : ¬ 0 < y.cnt := hp; omega)).mono ?_
        rintro e w' ⟨rfl, v', hg'⟩
        exact Post.mk rfl hg' h1 h2 (map_set h3 _ _)

theorem Up_fn {G : Nat} {B : Nat → Prop} {st : St} {w : World} (h : Gs G B st w) (hs : ShortA 1000000 st) (hcnt : ∀ x ∈ st.ss, 0 ≤ x.1 ∧ x.1 ≤ 1048576) (s c : Int) :
    Calls Try.prog 15 #[.pointer (some ⟨G, 0, none⟩), .int .i64 s, .int .i64 c] w (Post G B w (ret3 (UpA st s c).1 (UpA st s c).2.1 (UpA st s c).2.2.1) (UpA st s c).2.2.2) := by
  obtain ⟨vm, vc, vs, ms, cs, ss, hg, h1, h2, h3⟩ := h.out
  cases hm : nth st.ss s with
  | none =>
    refine (Up_out s c hg (nth_out h3 hm)).mono ?_
    rintro e w' ⟨rfl, rfl⟩
    rw [UpA, hm]
    exact Post.keeps rfl h (Keeps.refl _ _)
  | some x =>
    obtain ⟨k, y, rfl, hy, rfl, hx⟩ := nth_in h3 hm
    have hc := hcnt _ (List.mem_of_getElem? hx)
    rw [UpA, hm]
    simp only []
    cases hq : (aS y).2[at_ c (aS y).2.length]? with
    | some z =>
      refine (Up_some c hg hy (at_some hq) hq (hs.2.2 _ (List.mem_of_getElem? hx))).mono ?_
      rintro e w' ⟨rfl, v', hg'⟩
      exact Post.mk rfl hg' h1 h2 (map_set h3 _ _)
    | none =>
      have hq0 := at_none hq
      by_cases hp : 1048576 ≤ (aS y).1
      · simp only [if_pos hp]
        refine (Up_full c hg hy hq0 hp).mono ?_
        rintro e w' ⟨rfl, k⟩
        exact Post.keeps rfl h k
      · simp only [if_neg hp]
        refine (Up_more c hg hy hq0 (by have : ¬ 1048576 ≤ y.cnt := hp; omega) hc.1).mono ?_
        rintro e w' ⟨rfl, hg'⟩
        exact Post.mk rfl hg' h1 h2 (map_set h3 _ _)

theorem Owner_fn {G : Nat} {B : Nat → Prop} {st : St} {w : World} (h : Gs G B st w) (m : Int) :
    Calls Try.prog 19 #[.pointer (some ⟨G, 0, none⟩), .int .i64 m] w fun e w' => e = .returned (.tuple #[.int .i64 (OwnerA st m).1, .bool (OwnerA st m).2]) ∧ w = w' := by
  obtain ⟨vm, vc, vs, ms, cs, ss, hg, h1, h2, h3⟩ := h.out
  cases hm : nth st.ms m with
  | none =>
    rw [OwnerA, hm]
    exact Owner_out m hg (nth_out h1 hm)
  | some x =>
    obtain ⟨k, y, rfl, hy, rfl, hx⟩ := nth_in h1 hm
    rw [OwnerA, hm]
    exact Owner_in hg hy

theorem Count_fn {G : Nat} {B : Nat → Prop} {st : St} {w : World} (h : Gs G B st w) (m : Int) :
    Calls Try.prog 18 #[.pointer (some ⟨G, 0, none⟩), .int .i64 m] w fun e w' => e = .returned (.int .i64 (CountA st m)) ∧ w = w' := by
  obtain ⟨vm, vc, vs, ms, cs, ss, hg, h1, h2, h3⟩ := h.out
  cases hm : nth st.ss m with
  | none =>
    rw [CountA, hm]
    exact Count_out m hg (nth_out h3 hm)
  | some x =>
    obtain ⟨k, y, rfl, hy, rfl, hx⟩ := nth_in h3 hm
    rw [CountA, hm]
    exact Count_in hg hy

def WtPost (w : World) (l : List Int) (e : Ending) (w' : World) : Prop := ∃ u, e = .returned u ∧ Mine w w' 3 1 u l.length (l.map encI)

theorem WtPost.nil {w : World} {e : Ending} {w' : World} (h : e = .returned (.slice none 0 0) ∧ w = w') : WtPost w [] e w' := by
  obtain ⟨rfl, rfl⟩ := h
  exact ⟨_, rfl, Mine.nil _ _ _⟩

theorem Waiters_fn {G : Nat} {B : Nat → Prop} {st : St} {w : World} (h : Gs G B st w) (hs : ShortA 10000 st) (k n : Int) :
    Calls Try.prog 16 #[.pointer (some ⟨G, 0, none⟩), .int .i64 k, .int .i64 n] w (WtPost w (WaitersA st k n)) := by
  obtain ⟨vm, vc, vs, ms, cs, ss, hg, h1, h2, h3⟩ := h.out
  have hsh := hs.short h1 h2 h3
  unfold WaitersA
  by_cases e1 : k = 1
  · subst e1
    rw [if_pos (by rfl)]
    cases hm : nth st.ms n with
    | none =>
      refine (waiters_nil (row1_none (getM_out n (cell_of_block hg.head (o := 0) rfl) (vm_slice hg) (nth_out h1 hm)))).mono ?_
      intro e w' he
      exact WtPost.nil he
    | some x =>
      obtain ⟨k, y, rfl, hy, rfl, hx⟩ := nth_in h1 hm
      have hml := (List.getElem?_eq_some_iff.1 hy).1
      obtain ⟨A, cap, rfl, hA⟩ := own_len hg.om
      obtain ⟨M, rfl⟩ := hA (by omega)
      refine (waiters_row (row1_some (getM_in k (cell_of_block hg.head (o := 0) rfl) hml)) (mx_cells rfl hg.om hy).1 (hg.rm hy) (hsh.1 _ (List.mem_of_getElem? hy))).mono ?_
      rintro e w' ⟨u, rfl, hm⟩
      exact ⟨u, rfl, by show Mine w w' _ 1 u (y.q.map Prod.fst).length ((y.q.map Prod.fst).map encI); rw [List.length_map]; exact hm⟩
  · rw [if_neg (by simpa using e1)]
    by_cases e2 : k = 2
    · subst e2
      rw [if_pos (by rfl)]
      cases hm : nth st.cs n with
      | none =>
        refine (waiters_nil (row2_none (getC_out n (cell_of_block hg.head (o := 1) rfl) (vc_slice hg) (nth_out h2 hm)))).mono ?_
        intro e w' he
        exact WtPost.nil he
      | some x =>
        obtain ⟨k, y, rfl, hy, rfl, hx⟩ := nth_in h2 hm
        have hml := (List.getElem?_eq_some_iff.1 hy).1
        obtain ⟨A, cap, rfl, hA⟩ := own_len hg.oc
        obtain ⟨M, rfl⟩ := hA (by omega)
        refine (waiters_row (row2_some (getC_in k (cell_of_block hg.head (o := 1) rfl) hml)) (rw_cells rfl hg.oc hy) (hg.rc hy) (hsh.2.1 _ (List.mem_of_getElem? hy))).mono ?_
        rintro e w' ⟨u, rfl, hm⟩
        exact ⟨u, rfl, by show Mine w w' _ 1 u (y.q.map Prod.fst).length ((y.q.map Prod.fst).map encI); rw [List.length_map]; exact hm⟩
    · rw [if_neg (by simpa using e2)]
      by_cases e3 : k = 3
      · subst e3
        rw [if_pos (by rfl)]
        cases hm : nth st.ss n with
        | none =>
          refine (waiters_nil (row3_none (getS_out n (cell_of_block hg.head (o := 2) rfl) (vs_slice hg) (nth_out h3 hm)))).mono ?_
          intro e w' he
          exact WtPost.nil he
        | some x =>
          obtain ⟨k, y, rfl, hy, rfl, hx⟩ := nth_in h3 hm
          have hml := (List.getElem?_eq_some_iff.1 hy).1
          obtain ⟨A, cap, rfl, hA⟩ := own_len hg.os
          obtain ⟨M, rfl⟩ := hA (by omega)
          refine (waiters_row (row3_some (getS_in k (cell_of_block hg.head (o := 2) rfl) hml)) (sm_cells rfl hg.os hy).1 (hg.rs hy) (hsh.2.2 _ (List.mem_of_getElem? hy))).mono ?_
          rintro e w' ⟨u, rfl, hm⟩
          exact ⟨u, rfl, by show Mine w w' _ 1 u (y.q.map Prod.fst).length ((y.q.map Prod.fst).map encI); rw [List.length_map]; exact hm⟩
      · rw [if_neg (by simpa using e3)]
        refine (waiters_nil (row_else _ k n w (by simpa using e1) (by simpa using e2) (by simpa using e3))).mono ?_
        intro e w' he
        exact WtPost.nil he

def begin_ (na nb : Nat) (l : List Int) : St := ⟨List.replicate na ⟨false, 0, []⟩, List.replicate nb [], (l.take 4).map fun z => (min (max z 0) 1048576, [])⟩

theorem New_fn (a b : Int) (na nb : Nat) (ha : min (max a 0) 4 = (na : Int)) (hb : min (max b 0) 4 = (nb : Int)) (A : Option Addr) (bb off len cap : Nat) (w : World) (zs : List Int) (h : IntsAt .i64 w A bb off len zs) (hcap : len ≤ cap) :
    Calls Try.prog 8 #[.int .i64 a, .int .i64 b, .slice A len cap] w fun e w' => ∃ G B, e = .returned (.pointer (some ⟨G, 0, none⟩)) ∧ Gs G B (begin_ na nb zs) w' ∧ Turn NoBlock B w w' := by
  refine (new_calls a b na nb ha hb A bb off len cap w zs h hcap).mono ?_
  rintro e w' ⟨G, vm, vc, vs, rfl, hg⟩
  have hl : zs.take (min len 4) = zs.take 4 := by
    have := h.length
    rw [← this, List.take_eq_take_iff]
    omega
  rw [hl] at hg
  obtain ⟨B, hB, ht⟩ := Gs.of (st := begin_ na nb zs) hg (by simp [begin_, aM, m0]) (by simp [begin_, aR, c0]) (by show _ = (zs.take 4).map _; rw [List.map_map]; rfl)
  exact ⟨G, B, rfl, hB, ht⟩

end Gt
end Go.Proofs.Ytlgolofcpokndaa
