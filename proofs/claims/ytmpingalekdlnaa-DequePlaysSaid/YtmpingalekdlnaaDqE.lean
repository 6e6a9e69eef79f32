/- Layer 5's statements: a deque beside rows of the law's own; DequeEnds. -/
import Derived.Test.YtmpingalekdlnaaDqD
import Derived.Test.YtmpingalekdlnaaArg
import Derived.Deep.DeepCutAuto
import Derived.Deep.CutBlock
namespace Go.Proofs.Ytmpingalekdlnaa
open Go.RowKit
namespace Dq

/-- A deque of the law's own, apart from the blocks of B. -/
def DqS (w : World) (d : Nat) (l : List Int) (B : Nat → Prop) (wr : World) : Prop := ∃ col, DequeAt col 1 wr d l ∧ Fr w.heap.size 1 col ∧ Keeps NoBlock w wr ∧ ∀ b, B b → col b ≠ 1 ∧ b < wr.heap.size ∧ w.heap.size ≤ b

theorem DqS.kp {w wr : World} {d : Nat} {l : List Int} {B : Nat → Prop} (h : DqS w d l B wr) : Keeps NoBlock w wr := by
  obtain ⟨_, _, _, h, _⟩ := h
  exact h
theorem DqS.len {w wr : World} {d : Nat} {l : List Int} {B : Nat → Prop} (h : DqS w d l B wr) : l.length ≤ 1000 := by
  obtain ⟨col, h1, _⟩ := h
  exact h1.len
theorem DqInv.toS {w wr : World} {d : Nat} {l : List Int} (h : DqInv w d l wr) : DqS w d l (fun _ => False) wr := by
  obtain ⟨col, h1, h2, h3⟩ := h
  exact ⟨col, h1, h2, h3, fun _ h => h.elim⟩

/-- The law writes blocks of B alone, or makes new ones. -/
theorem DqS.change {w wr w' : World} {d : Nat} {l : List Int} {B B' : Nat → Prop} (h : DqS w d l B wr) (k : Keeps B wr w') (hB : ∀ b, B' b → (B b ∨ wr.heap.size ≤ b) ∧ b < w'.heap.size) : DqS w d l B' w' := by
  obtain ⟨col, h1, h2, h3, h4⟩ := h
  have hf := h1
  obtain ⟨A, c, hf⟩ := hf
  refine ⟨col, h1.keeps k (fun j hj hb => (h4 j hb).1 hj), h2, h3.trans k (fun j hj hb => by have := (h4 j hb).2.2; omega), fun b hb => ?_⟩
  obtain ⟨h5, h6⟩ := hB b hb
  rcases h5 with h5 | h5
  · exact ⟨(h4 b h5).1, h6, (h4 b h5).2.2⟩
  · exact ⟨fun hc => by have := hf.flt b hc; omega, h6, by have := h3.size; omega⟩

theorem DqS.keeps {w wr w' : World} {d : Nat} {l : List Int} {B : Nat → Prop} (h : DqS w d l B wr) (k : Keeps NoBlock wr w') : DqS w d l B w' := by
  have h4 := h
  obtain ⟨_, _, _, _, h4⟩ := h4
  exact h.change (k.mono (fun _ _ h => h.elim)) (fun b hb => ⟨.inl hb, Nat.lt_of_lt_of_le (h4 b hb).2.1 k.size⟩)

theorem s_step {f : FuncId} {args : Array Value} {w wr : World} {d : Nat} {l l' : List Int} {B : Nat → Prop} {r : Ending} (I : DqS w d l B wr) (h : ∀ col, DequeAt col 1 wr d l → Calls Try.prog f args wr (Step col 1 wr d l' r)) :
    Calls Try.prog f args wr fun e w' => e = r ∧ DqS w d l' B w' ∧ Keeps (fun b => ¬ B b) wr w' := by
  obtain ⟨col, h1, h2, h3, h4⟩ := I
  refine (h col h1).mono ?_
  rintro e w' ⟨col', rfl, h5, h6⟩
  have hs := h6.1.size
  refine ⟨rfl, ⟨col', h5, fun k hk => ?_, h3.trans h6.1 (fun j hj hh => by have := h2 j hh; omega), fun b hb => ⟨by rw [h6.old (h4 b hb).2.1]; exact (h4 b hb).1, by have := (h4 b hb).2.1; omega, (h4 b hb).2.2⟩⟩, h6.1.mono (fun b _ hb hB => (h4 b hB).1 hb)⟩
  rcases h6.2 k with h7 | h7
  · rw [h7] at hk; exact h2 k hk
  · have := h3.size; omega

theorem s_same {f : FuncId} {args : Array Value} {w wr : World} {d : Nat} {l : List Int} {B : Nat → Prop} {r : Ending} (I : DqS w d l B wr) (h : ∀ col, DequeAt col 1 wr d l → Calls Try.prog f args wr fun e w' => e = r ∧ wr = w') :
    Calls Try.prog f args wr fun e w' => e = r ∧ wr = w' := by
  obtain ⟨col, h1, h2, h3, h4⟩ := I
  exact h col h1

def SAll (w : World) (d : Nat) (l : List Int) (B : Nat → Prop) (wr : World) (e : Ending) (w' : World) : Prop :=
  ∃ A c, e = .returned (.slice A l.length c) ∧ ReadsI .i64 w' (.slice A l.length c) l ∧ Keeps NoBlock wr w' ∧ DqS w d l B w' ∧ (∀ b, (Value.slice A l.length c).ownBlock = some b → wr.heap.size ≤ b ∧ b < w'.heap.size)

theorem s_all {w wr : World} {d : Nat} {l : List Int} {B : Nat → Prop} (I : DqS w d l B wr) : Calls Try.prog 27 #[.pointer (some ⟨d, 0, none⟩)] wr (SAll w d l B wr) := by
  have I' := I
  obtain ⟨col, h1, h2, h3, _⟩ := I
  refine (all_calls d l wr h1).mono ?_
  rintro e w' ⟨A, c, rfl, hr, hf, hk⟩
  exact ⟨A, c, rfl, hr, hk, I'.keeps hk, hf⟩

theorem erase_last (l : List Int) : l.eraseIdx (l.length - 1) = l.dropLast := by
  rw [List.dropLast_eq_take]
  apply List.ext_getElem?
  intro j
  rw [List.getElem?_eraseIdx, List.getElem?_take]
  split
  · rfl
  · rw [List.getElem?_eq_none (by omega)]

theorem erase_app (l : List Int) (x : Int) : (l ++ [x]).eraseIdx ((l ++ [x]).length - 1) = l := by
  rw [erase_last]; simp

def EndsPost (w : World) (e : Ending) (w' : World) : Prop := e = .returned (.bool true) ∧ Below w.heap.size w w'

set_option maxHeartbeats 4000000 in
set_option maxRecDepth 100000 in
theorem ends_calls (A : Option Addr) (b off len cap : Nat) (zs : List Int) (n : Int) (front : Bool) (w : World) (hA : 0 < len → A = some ⟨b, off, none⟩)
    (hc : ∀ j, j < len → w.cell? ⟨b, off + j, none⟩ = some (.int .i64 (zs.getD j 0))) (hl : len ≤ 1000000000000000) :
    Calls Try.prog 9 #[.slice A len cap, .int .i64 n, .bool front] w (EndsPost w) := by
  have Hc := Lib.hid hc
  have HA := Lib.hid hA
  clear hc hA
  go_enter Try.func9, Try.ntmps9
  go_wp2_with fail
  refine (inv_new w).mono ?_
  rintro e w1 ⟨rfl, I1⟩
  obtain ⟨d, hd⟩ : ∃ d, d = w.heap.size := ⟨_, rfl⟩
  rw [← hd] at I1 ⊢
  clear hd
  have S1 := I1.toS
  clear I1
  go_wp2_with fail
  go_loopw [8] (fun i wr => ∃ (k : Nat) (l : List Int), k ≤ 60 ∧ k ≤ len ∧ i = .int .i64 k ∧ l.length ≤ k ∧ DqS w d l (fun _ => False) wr) (fun i _ => 60 - (intOf i).toNat)
  case atStart => exact ⟨0, [], by omega, by omega, rfl, Nat.le_refl _, S1⟩
  case round =>
    obtain ⟨k, l, hk, hkl, rfl, hll, S⟩ := hrel
    clear S1
    have HS := Lib.hid S
    have hkp := S.kp
    clear S
    by_cases hlt : k < len ∧ k < 60
    · obtain ⟨hlt, hlt6⟩ := hlt
      obtain rfl := HA.out (by omega)
      have hbw : b < w.heap.size := World.block_lt_of_cell? w ⟨b, off + k, none⟩ (Hc.out k hlt)
      obtain ⟨x, hx⟩ : ∃ x, zs.getD k 0 = x := ⟨_, rfl⟩
      have hc0 := Hc.out k hlt
      rw [hx] at hc0
      have c1 : wr.cell? ⟨b, off + k, none⟩ = some (.int .i64 x) := by rw [hkp.cell hbw (fun h => h)]; exact hc0
      clear hx hc0
      cases hany : l.any fun y => y == x with
      | true =>
        have hp := Lib.hid (s_same HS.out (fun col h => push_has d l x wr h hany))
        clear hany
        go_wp2_with fail
        refine hp.out.mono ?_
        rintro e w2 ⟨rfl, rfl⟩
        have HS' := HS.out
        go_wp2_with fail
        exact ⟨⟨k + 1, l, by omega, by omega, by go_num, by omega, HS'⟩, by simp [intOf]; omega⟩
      | false =>
        have hp := Lib.hid (s_step HS.out (fun col h => push_new d l x wr h hany (by omega)))
        clear hany
        go_wp2_with fail
        refine hp.out.mono ?_
        rintro e w2 ⟨rfl, S2, _⟩
        go_wp2_with fail
        exact ⟨⟨k + 1, l ++ [x], by omega, by omega, by go_num, by simp; omega, S2⟩, by simp [intOf]; omega⟩
    · have hend : (k : Int) < len → (60 : Int) ≤ k := by omega
      have Hend := Lib.hid hend
      clear hend hlt
      go_upto_region 3 with fail
      go_cut [20] from 13 to 19 (fun v wx => v = .bool false ∧ wr = wx)
      case first =>
        by_cases h1 : k < len
        · have h2 : 60 ≤ (k : Int) := Hend.out (by omega)
          go_wp2_with fail
          go_meet
          case rel => exact ⟨by rw [decide_eq_false (by omega)], rfl⟩
        · have h2 : (len : Int) ≤ k := by omega
          clear h1
          go_wp2_with fail
          go_meet
          case rel => exact ⟨rfl, rfl⟩
      case rest =>
        obtain ⟨rfl, rfl⟩ := hcut
        go_wp2_with fail
        refine (s_all HS.out).mono ?_
        rintro e w2 ⟨A2, c2, rfl, r2, k2, S2, f2⟩
        have S2' : DqS w d l (fun b => (Value.slice A2 l.length c2).ownBlock = some b) w2 :=
          (HS.out).change (k2.mono (fun _ _ h => h.elim)) (fun b hb => ⟨.inr (f2 b hb).1, (f2 b hb).2⟩)
        have hS2 := Lib.hid S2'
        have R2 := Lib.hid r2
        have hin := Lib.hid (in_calls _ l n w2 r2 (by omega))
        clear S2 S2' r2 f2 k2 HS
        cases hany : l.any fun y => y == n with
        | true =>
          have Hany := Lib.hid hany
          clear hany
          go_wp2_with fail
          refine hin.out.mono ?_
          rintro e w3 ⟨rfl, rfl⟩
          rw [Hany.out]
          go_wp2_with fail
          refine (awake05_calls _).mono ?_
          rintro e w3 ⟨rfl, k3⟩
          have S3 := Lib.hid (hS2.out.keeps k3)
          have R3 := Lib.hid (R2.out.keeps k3 (fun _ _ h => h))
          clear k3
          go_wp2_with fail
          refine (s_same S3.out (fun col h => push_has d l n w3 h Hany.out)).mono ?_
          rintro e w4 ⟨rfl, rfl⟩
          have S3' := Lib.hid S3.out
          go_wp2_with fail
          refine (s_same S3'.out (fun col h => pushF_has d l n w3 h Hany.out)).mono ?_
          rintro e w4 ⟨rfl, rfl⟩
          have S3'' := Lib.hid S3'.out
          have R3' := Lib.hid R3.out
          go_wp2_with fail
          refine (s_all S3''.out).mono ?_
          rintro e w5 ⟨A5, c5, rfl, r5, k5, S5, _⟩
          have R5 := Lib.hid (R3'.out.keeps k5 (fun _ _ h => h))
          have Q5 := Lib.hid r5
          have K5 := Lib.hid S5.kp
          clear r5 k5 S5
          go_wp2_with fail
          refine (ints_calls _ _ l l w5 Q5.out R5.out (by omega) (by omega)).mono ?_
          rintro e w6 ⟨rfl, k6⟩
          rw [decide_eq_true rfl]
          go_wp2_with fail
          go_ret
          exact ⟨rfl, (K5.out.trans k6 (fun _ _ h => h)).below (Nat.le_refl _) (fun _ h => h.elim)⟩
        | false =>
          have Hany := Lib.hid hany
          clear hany
          go_wp2_with fail
          refine hin.out.mono ?_
          rintro e w3 ⟨rfl, rfl⟩
          rw [Hany.out]
          have hS3 := Lib.hid hS2.out
          have R3 := Lib.hid R2.out
          cases front with
          | true =>
            go_wp2_with fail
            refine (s_step hS3.out (fun col h => pushF_new d l n _ h Hany.out (by omega))).mono ?_
            rintro e w4 ⟨rfl, S4, k4⟩
            have R4 := Lib.hid (R3.out.keeps k4 (fun b hb hn => hn hb))
            have HS4 := Lib.hid S4
            clear S4 k4
            go_wp2_with fail
            refine (s_step HS4.out (fun col h => pop_calls d (n :: l) n _ h rfl)).mono ?_
            rintro e w5 ⟨rfl, S5, k5⟩
            have R5 := Lib.hid (R4.out.keeps k5 (fun b hb hn => hn hb))
            have HS5 : Hid (DqS w d l (fun b => (Value.slice A2 l.length c2).ownBlock = some b) w5) := S5
            clear S5 k5
            go_wp2_with fail
            refine (awake05_calls _).mono ?_
            rintro e w6 ⟨rfl, k6⟩
            have S6 := Lib.hid (HS5.out.keeps k6)
            have R6 := Lib.hid (R5.out.keeps k6 (fun _ _ h => h))
            clear k6
            have hnn : (n == n) = true := by simp
            go_wp2_with fail
            refine (s_all S6.out).mono ?_
            rintro e w7 ⟨A7, c7, rfl, r7, k7, S7, _⟩
            have R7 := Lib.hid (R6.out.keeps k7 (fun _ _ h => h))
            have Q7 := Lib.hid r7
            have K7 := Lib.hid S7.kp
            clear r7 k7 S7
            go_wp2_with fail
            refine (ints_calls _ _ l l w7 Q7.out R7.out (by omega) (by omega)).mono ?_
            rintro e w8 ⟨rfl, k8⟩
            rw [decide_eq_true rfl]
            go_wp2_with fail
            go_ret
            exact ⟨rfl, (K7.out.trans k8 (fun _ _ h => h)).below (Nat.le_refl _) (fun _ h => h.elim)⟩
          | false =>
            go_wp2_with fail
            refine (s_step hS3.out (fun col h => push_new d l n _ h Hany.out (by omega))).mono ?_
            rintro e w4 ⟨rfl, S4, k4⟩
            have R4 := Lib.hid (R3.out.keeps k4 (fun b hb hn => hn hb))
            have HS4 := Lib.hid S4
            clear S4 k4
            go_wp2_with fail
            refine (s_step HS4.out (fun col h => popB_calls d (l ++ [n]) n _ h (by simp))).mono ?_
            rintro e w5 ⟨rfl, S5, k5⟩
            rw [erase_app] at S5
            have R5 := Lib.hid (R4.out.keeps k5 (fun b hb hn => hn hb))
            have HS5 : Hid (DqS w d l (fun b => (Value.slice A2 l.length c2).ownBlock = some b) w5) := S5
            clear S5 k5
            go_wp2_with fail
            refine (awake05_calls _).mono ?_
            rintro e w6 ⟨rfl, k6⟩
            have S6 := Lib.hid (HS5.out.keeps k6)
            have R6 := Lib.hid (R5.out.keeps k6 (fun _ _ h => h))
            clear k6
            have hnn : (n == n) = true := by simp
            go_wp2_with fail
            refine (s_all S6.out).mono ?_
            rintro e w7 ⟨A7, c7, rfl, r7, k7, S7, _⟩
            have R7 := Lib.hid (R6.out.keeps k7 (fun _ _ h => h))
            have Q7 := Lib.hid r7
            have K7 := Lib.hid S7.kp
            clear r7 k7 S7
            go_wp2_with fail
            refine (ints_calls _ _ l l w7 Q7.out R7.out (by omega) (by omega)).mono ?_
            rintro e w8 ⟨rfl, k8⟩
            rw [decide_eq_true rfl]
            go_wp2_with fail
            go_ret
            exact ⟨rfl, (K7.out.trans k8 (fun _ _ h => h)).below (Nat.le_refl _) (fun _ h => h.elim)⟩

theorem ends_row (w : World) (A : Option Addr) (b off len cap : Nat) (zs : List Int) (h : IntsAt .i64 w A b off len zs) (hl : len * 8 ≤ 140737488351232) (n : Int) (_hn : (Lit.int .i64 n).wf = true) (front : Bool) :
    Calls Try.prog 9 #[.slice A len cap, .int .i64 n, .bool front] w fun e w' => e = .returned (.bool true) ∧ Below w.heap.size w w' :=
  ends_calls A b off len cap zs n front w h.addr h.cell (by omega)
end Dq
end Go.Proofs.Ytmpingalekdlnaa
