/- strings.Lines: its iterator hands over the lines, one after the other. -/
import Derived.Test.YthjefffefomioaaDoorTlB
import Derived.Test.YthjefffefomioaaDoorTlC
import Derived.RangeFuncNested
import Derived.RangeFuncBound
import Derived.RangeFuncCalls
import Derived.RangeFuncLeaves
import Derived.Shelf.Abstract
import Derived.Shelf.RegionOpen
import Derived.OwnWalkIn
import Derived.TacticsInMore
import Derived.LoopNIn
import Derived.LoopIn
import Derived.Lib.TrimByte
namespace Go.Proofs.YthjefffefomioaaDoor
open Go.RowKit Go.Shelf
namespace Tl
attribute [local go_sem] Oper.semAt_some

theorem indexByte_none1 (c : UInt8) : ∀ (l : List UInt8), c ∉ l → Lib.indexByte l c = -1
  | [], _ => rfl
  | b :: l, h => by
    have hb : b ≠ c := fun e => h (by rw [e]; exact List.mem_cons_self ..)
    have hl : c ∉ l := fun e => h (List.mem_cons_of_mem _ e)
    rw [Lib.indexByte, if_neg (by simp [hb]), indexByte_none1 c l hl, if_pos (by decide)]

theorem indexByte_hit1 (c : UInt8) : ∀ (a r : List UInt8), c ∉ a → Lib.indexByte (a ++ c :: r) c = (a.length : Int)
  | [], r, _ => by simp [Lib.indexByte]
  | b :: a, r, h => by
    have hb : b ≠ c := fun e => h (by rw [e]; exact List.mem_cons_self ..)
    have hl : c ∉ a := fun e => h (List.mem_cons_of_mem _ e)
    rw [List.cons_append, Lib.indexByte, if_neg (by simp [hb]), indexByte_hit1 c a r hl, if_neg (by simp), List.length_cons]
    omega

theorem Lib.mk_toList (t : ByteArray) : (⟨t.data.toList.toArray⟩ : ByteArray) = t := by
  cases t
  simp

theorem Keeps.set' {a w : World} {B o : Nat} {v : Value} (h : Keeps (fun b => b = B) a w) {b : Nat} (e : b = B) : Keeps (fun b => b = B) a (w.setCell ⟨b, o, none⟩ v) := Keeps.setCell (p := ⟨b, o, none⟩) h (.inl e) v

/-- How long the string in a cell is. -/
def leftIn (w : World) (B : Nat) : Nat := match w.cell? ⟨B, 0, none⟩ with
  | some (.string t) => t.size
  | _ => 0

theorem leftIn_eq {w : World} {B : Nat} {t : ByteArray} (h : w.cell? ⟨B, 0, none⟩ = some (.string t)) : leftIn w B = t.size := by
  unfold leftIn
  rw [h]

set_option maxRecDepth 100000 in
set_option maxHeartbeats 2000000 in
theorem lines_gives (n : Nat) (hn : 1 ≤ n) (s : ByteArray) (B : Nat) (W : World) (hs : s.size ≤ 9223372036854775806) (hc : W.heap[B]? = some (.cells #[.string s] 9 (0, 0))) :
    GivesB Fence.wide n Tryd.prog 59 #[.pointer (some ⟨B, 0, none⟩)] B (fun x : List UInt8 => #[S x]) (linesOf s.data.toList) W := by
  intro l J Jx hJ hY h0
  refine callsIn_of_wp Tryd.func59 rfl trivial ?_ rfl
  simp only [Tryd.ntmps59, List.size_toArray, List.length_cons, List.length_nil, Nat.reduceAdd, Nat.reduceSub, Array.replicate_succ, Array.replicate_zero, List.push_toArray, List.append_toArray, List.nil_append, List.cons_append]
  gi_wp2
  gi_loopw [3] (fun _ wr => ∃ (pre : List (List UInt8)) (t : ByteArray), linesOf s.data.toList = pre ++ linesOf t.data.toList ∧ t.size ≤ s.size ∧ wr.heap[B]? = some (.cells #[.string t] 9 (0, 0)) ∧ J pre wr) (fun _ wr => leftIn wr B)
  case atStart => exact ⟨[], s, rfl, Nat.le_refl _, hc, h0⟩
  case round =>
    obtain ⟨pre, t, e1, e2, hb, hj⟩ := hrel
    have c0 : wr.cell? ⟨B, 0, none⟩ = some (.string t) := cell_of_block (o := 0) hb rfl
    have f0 : wr.frozen? ⟨B, 0, none⟩ = false := frozen_of_block hb
    have hlf := Lib.hid (leftIn_eq c0)
    have E1 := Lib.hid e1
    have HB := Lib.hid hb
    have HJ := Lib.hid hj
    have HY := Lib.hid hY
    clear e1 hb hj hc h0 hY
    rcases Nat.eq_zero_or_pos t.size with hz | hz
    · have hl0 : t.data.toList = [] := List.eq_nil_of_length_eq_zero (by rw [← Lib.size_eq]; exact hz)
      have hzi : ((t.size : Nat) : Int) = 0 := by omega
      gi_wp2
      go_end0
      refine ⟨⟨_, rfl⟩, .inl ?_⟩
      rw [E1.out, hl0, linesOf, List.append_nil]
      exact HJ.out
    · have hzi : (0 : Int) < ((t.size : Nat) : Int) := by omega
      rcases first_at 10 t.data.toList with hno | ⟨a, r, har, hno⟩
      · have hidx := indexByte_none1 10 _ hno
        have hne : t.data.toList ≠ [] := fun e => by rw [Lib.size_eq, e] at hz; simp at hz
        have hcalls := Lib.hid (fun w => idxByte_calls t 10 w)
        rw [show (10 : Int).toNat.toUInt8 = 10 from rfl, hidx] at hcalls
        obtain ⟨W2, hW2⟩ : ∃ W2, wr.setCell ⟨B, 0, none⟩ (.string { data := #[] }) = W2 := ⟨_, rfl⟩
        have b2 : W2.heap[B]? = some (.cells #[.string { data := #[] }] 9 (0, 0)) := by rw [← hW2]; exact block_set HB.out _
        have j2 : J pre W2 := hJ pre wr W2 HJ.out (by rw [← hW2]; exact Keeps.set' (Keeps.refl _ _) rfl)
        have e2' : linesOf s.data.toList = pre ++ t.data.toList :: [] := by rw [E1.out, linesOf_none _ hne hno]
        obtain ⟨fn, tmps, assign, body, hy, hR⟩ := HY.out pre t.data.toList [] W2 e2' j2
        rw [show S t.data.toList = Value.string t from congrArg Value.string (Lib.mk_toList t)] at hy
        have HR := Lib.hid hR
        have B2 := Lib.hid b2
        have E2 := Lib.hid e2'
        clear b2 j2 e2' hR
        gi_wp2_with (refine ⟨trivial, ?_⟩; gi_at_call 60; refine (callsIn_wide.2 (hcalls.out _)).mono ?_; rintro e w2 ⟨rfl, rfl⟩)
        refine HR.out.mono ?_
        rintro e W3 (⟨rfl, hJ3, hk3⟩ | ⟨rfl, c, ⟨t3, ht3⟩, rfl, hJx3⟩)
        · have b3 := hk3.trans B2.out
          clear hk3
          gi_wp2
          go_roundw
          case rel => exact ⟨pre ++ [t.data.toList], ⟨#[]⟩, by rw [E2.out]; simp [linesOf], Nat.zero_le _, b3, hJ3⟩
          case measure =>
            have h1 := leftIn_eq (cell_of_block (o := 0) b3 rfl)
            rw [h1, hlf.out]
            exact hz
        · gi_wp2
          refine bodyPost_ret (results_none rfl _ _ _) rfl ?_
          exact ⟨⟨_, rfl⟩, .inr ⟨_, hJx3⟩⟩
      · have hidx := indexByte_hit1 10 a r hno
        rw [← har] at hidx
        have hcalls := Lib.hid (fun w => idxByte_calls t 10 w)
        rw [show (10 : Int).toNat.toUInt8 = 10 from rfl, hidx] at hcalls
        have htl : t.size = a.length + 1 + r.length := by rw [Lib.size_eq, har]; simp; omega
        obtain ⟨k, hk⟩ : ∃ k, a.length = k := ⟨_, rfl⟩
        rw [hk] at hcalls hidx htl
        have hx1 : t.extract 0 (k + 1) = ⟨(a ++ [10]).toArray⟩ := by
          rw [Lib.extract_upto, har, ← hk, show a ++ 10 :: r = (a ++ [10]) ++ r by simp, List.take_left' (by simp)]
        have hx2 : t.extract (k + 1) t.size = ⟨r.toArray⟩ := by
          rw [Lib.extract_from, har, ← hk, show a ++ 10 :: r = (a ++ [10]) ++ r by simp, List.drop_left' (by simp)]
        obtain ⟨W2, hW2⟩ : ∃ W2, wr.setCell ⟨B, 0, none⟩ (.string ⟨r.toArray⟩) = W2 := ⟨_, rfl⟩
        have b2 : W2.heap[B]? = some (.cells #[.string ⟨r.toArray⟩] 9 (0, 0)) := by rw [← hW2]; exact block_set HB.out _
        have e2' : linesOf s.data.toList = pre ++ (a ++ [10]) :: linesOf r := by rw [E1.out, har, linesOf_hit a r hno]
        have hwk : IntKind.i64.wrap ((k : Int) + 1) = (k : Int) + 1 := by rw [IntKind.wrap_i64]; omega
        have hk0 : (0 : Int) ≤ (k : Int) := by omega
        have hk1 : (k : Int) + 1 ≤ ((t.size : Nat) : Int) := by omega
        have hgiv : Hid (∀ W2, Keeps (fun b => b = B) wr W2 → YieldAt Fence.wide (n - 1) Tryd.prog l #[.string ⟨(a ++ [10]).toArray⟩] W2 fun e W' => (e = .returned (.bool true) ∧ J (pre ++ [a ++ [10]]) W' ∧ W'.heap[B]? = W2.heap[B]?) ∨ (e = .returned (.bool false) ∧ ∃ c, (∃ t, linesOf s.data.toList = pre ++ (a ++ [10]) :: t) ∧ c = pre ++ [a ++ [10]] ∧ Jx c W')) := fun W2 kW => HY.out pre (a ++ [10]) (linesOf r) W2 e2' (hJ pre wr W2 HJ.out kW)
        have B2 := Lib.hid b2
        have E2 := Lib.hid e2'
        have Htl := Lib.hid htl
        clear b2 e2' hidx har htl hk
        gi_wp2_with (refine ⟨trivial, ?_⟩; gi_at_call 60; refine (callsIn_wide.2 (hcalls.out _)).mono ?_; rintro e w2 ⟨rfl, rfl⟩)
        gi_region
        obtain ⟨W4, hW4⟩ : ∃ W4, W2.drew = W4 := ⟨_, rfl⟩
        have b4 : Hid (W4.heap[B]? = some (.cells #[.string ⟨r.toArray⟩] 9 (0, 0))) := by show _ = _; rw [← hW4]; exact B2.out
        obtain ⟨fn, tmps, assign, body, hy, hR⟩ := hgiv.out W4 (by rw [← hW4, ← hW2]; exact (Keeps.set' (Keeps.refl _ _) rfl).drew)
        have HR := Lib.hid hR
        rw [hW4]
        clear hR hW4
        gi_wp2
        refine HR.out.mono ?_
        rintro e W3 (⟨rfl, hJ3, hk3⟩ | ⟨rfl, c, ⟨t3, ht3⟩, rfl, hJx3⟩)
        · have b3 := hk3.trans b4.out
          clear hk3
          gi_wp2
          go_roundw
          case rel => exact ⟨pre ++ [a ++ [10]], ⟨r.toArray⟩, by rw [E2.out, List.append_assoc]; rfl, by rw [Lib.size_mk]; have := Htl.out; omega, b3, hJ3⟩
          case measure =>
            have h1 := leftIn_eq (cell_of_block (o := 0) b3 rfl)
            rw [h1, hlf.out, Lib.size_mk]
            have := Htl.out
            omega
        · gi_wp2
          refine bodyPost_ret (results_none rfl _ _ _) rfl ?_
          exact ⟨⟨_, rfl⟩, .inr ⟨_, hJx3⟩⟩

theorem lines_calls (s : ByteArray) (w : World) : Calls Tryd.prog 34 #[.string s] w fun e w' => e = .returned (.func (.func 59) #[] #[.pointer (some ⟨w.heap.size, 0, none⟩)]) ∧ w' = w.alloc (.cells #[.string s] 9 (0, 0)) := by
  go_enter Tryd.func34, Tryd.ntmps34
  have hmf : ∀ (fn : Fn) (first cap : Array Value) (w : World), (Instr.makeFunc fn first cap).run Tryd.prog w = .ok (.func fn first cap) w := fun _ _ _ _ => rfl
  go_wp2_with fail
  go_ret
  exact ⟨rfl, rfl⟩

end Tl
end Go.Proofs.YthjefffefomioaaDoor
