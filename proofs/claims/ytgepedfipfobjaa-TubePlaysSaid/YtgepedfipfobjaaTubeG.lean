/- Package tube: what putting and getting come to, in one; the fixed fact of layer 7's statements. -/
import Derived.Test.YtgepedfipfobjaaTubeF
namespace Go.Proofs.Ytgepedfipfobjaa
open Go.RowKit
namespace Tb

abbrev St := List Int × List (Int × Int) × List Int

def putS (room : Int) (s : St) (who x : Int) : (Bool × Int × Bool) × St :=
  if waitsB s.2.1 s.2.2 who then ((false, 0, false), s) else
  match s.2.2 with
  | g :: gs => ((true, g, true), s.1, s.2.1, gs)
  | [] => if (s.1.length : Int) < room then ((true, 0, false), s.1 ++ [x], s.2.1, []) else ((false, 0, false), s.1, s.2.1 ++ [(who, x)], [])

def getS (s : St) (who : Int) : (Int × Bool × Int × Bool) × St :=
  if waitsB s.2.1 s.2.2 who then ((0, false, 0, false), s) else
  match s.1, s.2.1 with
  | [], ps => ((0, false, 0, false), [], ps, s.2.2 ++ [who])
  | x :: ws, [] => ((x, true, 0, false), ws, [], s.2.2)
  | x :: ws, p :: ps => ((x, true, p.1, true), ws ++ [p.2], ps, s.2.2)

def TubeS (col : Nat → Nat) (w : World) (t : Nat) (room : Int) (s : St) : Prop := TubeAt col w t room s.1 s.2.1 s.2.2

theorem TubeS.keeps {col : Nat → Nat} {S : Nat → Prop} {w w' : World} {t : Nat} {room : Int} {s : St} (h : TubeS col w t room s) (k : Keeps S w w') (hS : ∀ j, col j ≠ 0 → ¬ S j) : TubeS col w' t room s := TubeAt.keeps h k hS
theorem TubeS.flt {col : Nat → Nat} {w : World} {t : Nat} {room : Int} {s : St} (h : TubeS col w t room s) : ∀ k, col k ≠ 0 → k < w.heap.size := TubeAt.flt h

def StepS (col : Nat → Nat) (w : World) (t : Nat) (room : Int) (s : St) (r : Ending) (e : Ending) (w' : World) : Prop :=
  ∃ col', e = r ∧ TubeS col' w' t room s ∧ Next col col' w w'

theorem StepS.same {col : Nat → Nat} {w w' : World} {t : Nat} {room : Int} {s : St} {r : Ending} (h : TubeS col w t room s) (k : Keeps NoBlock w w') : StepS col w t room s r r w' :=
  ⟨col, rfl, h.keeps k (fun _ _ h => h), k.mono (fun _ _ h => h.elim), fun _ _ => rfl⟩

theorem put_any {col : Nat → Nat} (t : Nat) (room : Int) (s s' : St) (a : Bool) (b : Int) (c : Bool) (who x : Int) (w : World) (h : TubeS col w t room s) (hp : s.2.1.length < 1000) (hr : putS room s who x = ((a, b, c), s')) :
    Calls Try.prog 20 #[.pointer (some ⟨t, 0, none⟩), .int .i64 who, .int .u64 x] w (StepS col w t room s' (put3 a b c)) := by
  obtain ⟨ws, ps, gs⟩ := s
  unfold putS at hr
  simp only [] at hr hp
  have hrm : room ≤ 8 := by obtain ⟨_, _, _, _, _, _, h'⟩ := h; exact h'.room.2
  by_cases hw : waitsB ps gs who = true
  · rw [if_pos hw] at hr
    simp only [Prod.mk.injEq] at hr
    obtain ⟨⟨rfl, rfl, rfl⟩, rfl⟩ := hr
    exact (put_wait t room ws ps gs who x w h hw).mono fun e w' ⟨he, hk⟩ => by subst he; exact StepS.same h hk
  · have hw' : waitsB ps gs who = false := by simpa using hw
    rw [if_neg hw] at hr
    cases gs with
    | cons g gs =>
      simp only [Prod.mk.injEq] at hr
      obtain ⟨⟨rfl, rfl, rfl⟩, rfl⟩ := hr
      exact put_give t room ws ps _ gs who x w h hw'
    | nil =>
      simp only [] at hr
      by_cases hlt : (ws.length : Int) < room
      · rw [if_pos hlt] at hr
        simp only [Prod.mk.injEq] at hr
        obtain ⟨⟨rfl, rfl, rfl⟩, rfl⟩ := hr
        exact put_room t room ws ps who x w h hw' hlt hrm
      · rw [if_neg hlt] at hr
        simp only [Prod.mk.injEq] at hr
        obtain ⟨⟨rfl, rfl, rfl⟩, rfl⟩ := hr
        exact put_full t room ws ps who x w h hw' (by omega) hp

theorem get_any {col : Nat → Nat} (t : Nat) (room : Int) (s s' : St) (x : Int) (a : Bool) (b : Int) (c : Bool) (who : Int) (w : World) (h : TubeS col w t room s) (hg : s.2.2.length < 1000) (hr : getS s who = ((x, a, b, c), s')) :
    Calls Try.prog 18 #[.pointer (some ⟨t, 0, none⟩), .int .i64 who] w (StepS col w t room s' (get4 x a b c)) := by
  obtain ⟨ws, ps, gs⟩ := s
  unfold getS at hr
  simp only [] at hr hg
  by_cases hw : waitsB ps gs who = true
  · rw [if_pos hw] at hr
    simp only [Prod.mk.injEq] at hr
    obtain ⟨⟨rfl, rfl, rfl, rfl⟩, rfl⟩ := hr
    exact (get_wait t room ws ps gs who w h hw).mono fun e w' ⟨he, hk⟩ => by subst he; exact StepS.same h hk
  · have hw' : waitsB ps gs who = false := by simpa using hw
    rw [if_neg hw] at hr
    cases ws with
    | nil =>
      simp only [Prod.mk.injEq] at hr
      obtain ⟨⟨rfl, rfl, rfl, rfl⟩, rfl⟩ := hr
      exact get_empty t room ps gs who w h hw' hg
    | cons y ws =>
      cases ps with
      | nil =>
        simp only [Prod.mk.injEq] at hr
        obtain ⟨⟨rfl, rfl, rfl, rfl⟩, rfl⟩ := hr
        exact get_plain t room _ ws gs who w h hw'
      | cons p ps =>
        simp only [Prod.mk.injEq] at hr
        obtain ⟨⟨rfl, rfl, rfl, rfl⟩, rfl⟩ := hr
        exact get_move t room _ ws p ps gs who w h hw'

theorem fresh_not {B : Nat} {col : Nat → Nat} (h : ∀ k, col k ≠ 0 → B ≤ k) : ∀ j, j < B → col j ≠ 0 → NoBlock j := fun j hj hF => by have := h j hF; omega

/-- All blocks of the tube are new since B. -/
def Fresh (B : Nat) (col : Nat → Nat) : Prop := ∀ k, col k ≠ 0 → B ≤ k

theorem Fresh.next {B : Nat} {c0 c1 : Nat → Nat} {w w' : World} (h : Fresh B c0) (n : Next c0 c1 w w') (hB : B ≤ w.heap.size) : Fresh B c1 := fun k hk => by
  by_cases hlt : k < w.heap.size
  · rw [n.2 k hlt] at hk; exact h k hk
  · omega
theorem Fresh.keep {B : Nat} {c0 c1 : Nat → Nat} {w0 w w' : World} (h : Fresh B c0) (n : Next c0 c1 w w') (hk : Keeps NoBlock w0 w) (hB : B = w0.heap.size) : Keeps NoBlock w0 w' :=
  hk.trans n.1 (fun j hj hh => by have := h j hh; omega)

set_option maxRecDepth 100000 in
theorem awake07_calls (w : World) : Calls Try.prog 21 #[] w fun e w' => e = .returned (.bool true) ∧ Keeps NoBlock w w' := by
  go_enter Try.func21, Try.ntmps21
  go_wp2_with fail
  refine (new_calls 1 w).mono ?_
  rintro e w1 ⟨t, c1, rfl, T1, f1, k1⟩
  rw [show min (max (1 : Int) 1) 8 = 1 by decide] at T1
  go_wp2_with fail
  refine (put_any (col := c1) t 1 ([], [], []) ([5], [], []) true 0 false 1 5 _ T1 (by decide) (by decide)).mono ?_
  rintro e w2 ⟨c2, rfl, T2, n2⟩
  have k02 := Fresh.keep f1 n2 k1 rfl
  have f2 := Fresh.next f1 n2 k1.size
  go_wp2_with fail
  refine (put_any (col := c2) t 1 ([5], [], []) ([5], [(2, 6)], []) false 0 false 2 6 _ T2 (by decide) (by decide)).mono ?_
  rintro e w3 ⟨c3, rfl, T3, n3⟩
  have k03 := Fresh.keep f2 n3 k02 rfl
  have f3 := Fresh.next f2 n3 k02.size
  go_wp2_with fail
  refine (get_any (col := c3) t 1 ([5], [(2, 6)], []) ([6], [], []) 5 true 2 true 3 _ T3 (by decide) (by decide)).mono ?_
  rintro e w4 ⟨c4, rfl, T4, n4⟩
  have k04 := Fresh.keep f3 n4 k03 rfl
  have f4 := Fresh.next f3 n4 k03.size
  clear T1 T2 T3 n2 n3 n4 k02 k03 k1
  go_wp2_with fail
  refine (Words_calls (col := c4) t 1 [6] [] [] _ T4).mono ?_
  rintro e w5 ⟨A5, b5, rfl, r5, _, k5⟩
  have T5 := T4.keeps k5 (fun _ _ h => h)
  have k05 := k04.trans k5 (fun _ _ h => h)
  have k56 : Keeps NoBlock w5 (w5.alloc (.cells #[.int .u64 6] 27)) := (Keeps.refl _ _).alloc _
  have r6 : ReadsI .u64 (w5.alloc (.cells #[.int .u64 6] 27)) (.slice (some ⟨w5.heap.size, 0, none⟩) 1 1) [6] :=
    ⟨_, w5.heap.size, 0, 1, rfl, fun _ => ⟨rfl, by simp⟩, fun j x hx => by
      match j, hx with
      | 0, hx => simp at hx; subst hx; rw [Nat.zero_add]; exact cell_of_block (block_alloc_new _ _) rfl⟩
  have R5 := Lib.hid (r5.keeps k56 (fun _ _ h => h))
  have R6 := Lib.hid r6
  have T6 := T5.keeps k56 (fun _ _ h => h)
  have k06 := k05.trans k56 (fun _ _ h => h)
  clear r5 r6 k5 T4 T5 k56 k05 k04
  go_wp2_with fail
  refine (words_calls _ _ [6] [6] _ R5.out R6.out (by decide) (by decide)).mono ?_
  rintro e w7 ⟨rfl, k7⟩
  rw [decide_eq_true rfl]
  have T7 := T6.keeps k7 (fun _ _ h => h)
  have k07 := k06.trans k7 (fun _ _ h => h)
  go_wp2_with fail
  refine (putters_calls (col := c4) t 1 [6] [] [] _ T7).mono ?_
  rintro e w8 ⟨A8, b8, rfl, r8, _, k8⟩
  have k08 := k07.trans k8 (fun _ _ h => h)
  go_wp2_with fail
  go_ret
  exact ⟨rfl, k08⟩
end Tb
end Go.Proofs.Ytgepedfipfobjaa
