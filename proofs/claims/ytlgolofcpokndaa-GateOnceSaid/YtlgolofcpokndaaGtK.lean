/- Package gate: New. -/
import Derived.Test.YtlgolofcpokndaaGtI
import Derived.Test.YtlgolofcpokndaaArg
import Derived.Test.YtlgolofcpokndaaApp
import Derived.Deep.RegionWith
import Derived.Deep.RegionHeld3
namespace Go.Proofs.Ytlgolofcpokndaa
open Go.RowKit

namespace Gt

def zM : Value := .agg #[.slice none 0 0, .bool false, .int .i64 0]
def zR : Value := .agg #[.slice none 0 0]
def zS : Value := .agg #[.slice none 0 0, .int .i64 0]
theorem eI : Elem Try.prog 25 3 (.int .i64 0) 1 8 := Elem.mk' (by kernel_rfl) (by kernel_rfl) rfl (by decide)
theorem eM : Elem Try.prog 59 80 zM 3 40 := Elem.mk' (by kernel_rfl) (by kernel_rfl) rfl (by decide)
theorem eR : Elem Try.prog 60 66 zR 1 24 := Elem.mk' (by kernel_rfl) (by kernel_rfl) rfl (by decide)
theorem eS : Elem Try.prog 61 68 zS 2 32 := Elem.mk' (by kernel_rfl) (by kernel_rfl) rfl (by decide)

def m0 : Mx := ⟨.slice none 0 0, [], false, 0⟩
def c0 : Rw := ⟨.slice none 0 0, []⟩

theorem madeM {n : Nat} (h : n ≤ 4) : (madeCells #[Value.slice none 0 0, .bool false, .int .i64 0] (n * 3)).toList = (List.replicate n m0).flatMap encM := by
  rcases (show n = 0 ∨ n = 1 ∨ n = 2 ∨ n = 3 ∨ n = 4 by omega) with rfl | rfl | rfl | rfl | rfl <;> clear h <;> kernel_rfl

theorem madeR {n : Nat} (h : n ≤ 4) : (madeCells #[Value.slice none 0 0] n).toList = (List.replicate n c0).flatMap encR := by
  rcases (show n = 0 ∨ n = 1 ∨ n = 2 ∨ n = 3 ∨ n = 4 by omega) with rfl | rfl | rfl | rfl | rfl <;> clear h <;> kernel_rfl

theorem own_of_block {w : World} {g n s : Nat} {e : TypeId} {c : Array Value} (h : w.heap[g]? = some (.cells c e (0, 0))) (hs : c.size = n * s) (hn : n ≤ 1000) : Own w e s (.slice (some ⟨g, 0, none⟩) n n) n c.toList :=
  ⟨by simpa using hs, .inr ⟨g, n, c, rfl, Nat.zero_le _, h, Nat.le_refl _, by simp only [maxLen]; omega, hs, List.take_of_length_le (by rw [Array.length_toList, hs]; exact Nat.le_refl _)⟩⟩

theorem gat_new {w wx : World} {G M C na nb : Nat} (kp : Keeps NoBlock w wx) (hM : wx.heap[M]? = some (.cells (madeCells #[Value.slice none 0 0, .bool false, .int .i64 0] (na * 3)) 80 (0, 0))) (hC : wx.heap[C]? = some (.cells (madeCells #[Value.slice none 0 0] nb) 66 (0, 0)))
    (hG : wx.heap[G]? = some (.cells #[.slice (some ⟨M, 0, none⟩) na na, .slice (some ⟨C, 0, none⟩) nb nb, .slice none 0 0] 63 (0, 0))) (lM : w.heap.size ≤ M) (lC : w.heap.size ≤ C) (lG : w.heap.size ≤ G) (MC : M ≠ C) (MG : M ≠ G) (CG : C ≠ G) (hna : na ≤ 4) (hnb : nb ≤ 4) :
    GAt ⟨w, NoBlock⟩ G (.slice (some ⟨M, 0, none⟩) na na) (.slice (some ⟨C, 0, none⟩) nb nb) (.slice none 0 0) (List.replicate na m0) (List.replicate nb c0) [] wx := by
  have oM : Own wx 80 3 (.slice (some ⟨M, 0, none⟩) na na) na ((List.replicate na m0).flatMap encM) := by
    rw [← madeM hna]
    exact own_of_block hM (by rw [← Array.length_toList, madeM hna, flat_len encM 3 encM_len, List.length_replicate]) (by omega)
  have oC : Own wx 66 1 (.slice (some ⟨C, 0, none⟩) nb nb) nb ((List.replicate nb c0).flatMap encR) := by
    rw [← madeR hnb]
    exact own_of_block hC (by rw [← Array.length_toList, madeR hnb, flat_len encR 1 encR_len, List.length_replicate]) (by omega)
  have key : ∀ p y, gateE (.slice (some ⟨M, 0, none⟩) na na) (.slice (some ⟨C, 0, none⟩) nb nb) (.slice none 0 0) (List.replicate na m0) (List.replicate nb c0) [] p = some y →
      Own wx y.e y.s y.v y.n y.xs ∧ ((p = (0, 0) ∧ y.v.ownBlock = some M) ∨ (p = (0, 1) ∧ y.v.ownBlock = some C) ∨ y.v.ownBlock = none) := by
    rintro ⟨a, i⟩ y hy
    match a with
    | 0 =>
      change (if i = 0 then _ else if i = 1 then _ else if i = 2 then _ else none) = some y at hy
      by_cases h0 : i = 0
      · rw [if_pos h0] at hy
        injection hy with hy
        subst hy
        exact ⟨by show Own wx _ _ _ (List.replicate na m0).length _; rw [List.length_replicate]; exact oM, .inl ⟨by rw [h0], rfl⟩⟩
      · rw [if_neg h0] at hy
        by_cases h1 : i = 1
        · rw [if_pos h1] at hy
          injection hy with hy
          subst hy
          exact ⟨by show Own wx _ _ _ (List.replicate nb c0).length _; rw [List.length_replicate]; exact oC, .inr (.inl ⟨by rw [h1], rfl⟩)⟩
        · rw [if_neg h1] at hy
          by_cases h2 : i = 2
          · rw [if_pos h2] at hy
            injection hy with hy
            subst hy
            exact ⟨World.ownsRow_nil _ _ _ _, .inr (.inr rfl)⟩
          · rw [if_neg h2] at hy
            cases hy
    | 1 =>
      change ((List.replicate na m0)[i]?).map _ = some y at hy
      rw [Option.map_eq_some_iff] at hy
      obtain ⟨x, hx, rfl⟩ := hy
      have : x = m0 := List.eq_of_mem_replicate (List.mem_of_getElem? hx)
      subst this
      exact ⟨World.ownsRow_nil _ _ _ _, .inr (.inr rfl)⟩
    | 2 =>
      change ((List.replicate nb c0)[i]?).map _ = some y at hy
      rw [Option.map_eq_some_iff] at hy
      obtain ⟨x, hx, rfl⟩ := hy
      have : x = c0 := List.eq_of_mem_replicate (List.mem_of_getElem? hx)
      subst this
      exact ⟨World.ownsRow_nil _ _ _ _, .inr (.inr rfl)⟩
    | 3 =>
      change (([] : List Sm)[i]?).map (fun x => rowE x.v x.q) = some y at hy
      rw [List.getElem?_nil] at hy
      cases hy
    | n + 4 => change none = some y at hy; cases hy
  refine ⟨hG, ⟨fun p y hy => (key p y hy).1, fun p y b hy hb => ?_, fun p q y z b hy hz hb hb' => ?_⟩, .inr lG, kp, by rw [List.length_replicate]; exact hna, by rw [List.length_replicate]; exact hnb, by simp⟩
  · rcases (key p y hy).2 with ⟨_, h⟩ | ⟨_, h⟩ | h <;> rw [h] at hb
    · cases hb; exact ⟨.inr lM, MG⟩
    · cases hb; exact ⟨.inr lC, CG⟩
    · cases hb
  · rcases (key p y hy).2 with ⟨e1, h⟩ | ⟨e1, h⟩ | h <;> rw [h] at hb <;> rcases (key q z hz).2 with ⟨e2, h'⟩ | ⟨e2, h'⟩ | h' <;> rw [h'] at hb'
    · rw [e1, e2]
    · cases hb; cases hb'; exact absurd rfl MC
    · cases hb'
    · cases hb; cases hb'; exact absurd rfl MC
    · rw [e1, e2]
    · cases hb'
    · cases hb
    · cases hb
    · cases hb

def s0 (n : Int) : Sm := ⟨.slice none 0 0, [], n⟩

/-- One semaphore more, behind. -/
theorem GAt.pushS {w0 : Base} {w w2 : World} {G : Nat} {vm vc vs vs' : Value} {ms : List Mx} {cs : List Rw} {ss : List Sm} (h : GAt w0 G vm vc vs ms cs ss w) (n : Int) (ho : Own w2 68 2 vs' (ss.length + 1) ((ss ++ [s0 n]).flatMap encS))
    (k : Keeps (fun b => vs.ownBlock = some b) w w2) (hf : ∀ b, vs'.ownBlock = some b → vs.ownBlock = some b ∨ w.heap.size ≤ b) (hl : ss.length < 4) : GAt w0 G vm vc vs' ms cs (ss ++ [s0 n]) (w2.setCell ⟨G, 2, none⟩ vs') := by
  have e0 : gateE vm vc vs ms cs ss (0, 2) = some ⟨vs, 68, 2, ss.length, ss.flatMap encS⟩ := rfl
  have hGv : vs.ownBlock ≠ some G := fun e => (h.env.lw (0, 2) _ G e0 e).2 rfl
  have hG2 : w2.heap[G]? = some (.cells #[vm, vc, vs] 63 (0, 0)) := (k.block _ (lt_of_block h.head) hGv).trans h.head
  have kG : Keeps (fun b => b = G) w2 (w2.setCell ⟨G, 2, none⟩ vs') := Keeps.set (S := fun b => b = G) (Keeps.refl _ _) (.inl rfl) _
  have e0' : gateE vm vc vs' ms cs (ss ++ [s0 n]) (0, 2) = some ⟨vs', 68, 2, (ss ++ [s0 n]).length, (ss ++ [s0 n]).flatMap encS⟩ := rfl
  have e1' : gateE vm vc vs' ms cs (ss ++ [s0 n]) (3, ss.length) = some (rowE (.slice none 0 0) []) := by
    show ((ss ++ [s0 n])[ss.length]?).map _ = _
    rw [List.getElem?_append_right (Nat.le_refl _), Nat.sub_self]
    rfl
  have henv : EnvAt w0.ok (fun b => b = G) w2 (gateE vm vc vs' ms cs (ss ++ [s0 n])) := by
    refine h.env.turn (fun i => i = (0, 2) ∨ i = (3, ss.length)) h.above (fun b e => by rw [e]; exact lt_of_block h.head) (k.mono (fun b _ e => ⟨(0, 2), _, .inl rfl, e0, e⟩)) ?_ ?_ ?_
    · rintro ⟨a, i⟩ hI
      match a with
      | 0 =>
        have hi : i ≠ 2 := fun e => hI (.inl (by rw [e]))
        show (if i = 0 then _ else if i = 1 then _ else if i = 2 then _ else _) = (if i = 0 then _ else if i = 1 then _ else if i = 2 then _ else _)
        rw [if_neg hi, if_neg hi]
      | 1 => rfl
      | 2 => rfl
      | 3 =>
        have hi : i ≠ ss.length := fun e => hI (.inr (by rw [e]))
        show ((ss ++ [_])[i]?).map _ = (ss[i]?).map _
        by_cases hlt : i < ss.length
        · rw [List.getElem?_append_left hlt]
        · rw [List.getElem?_eq_none (by simp; omega), List.getElem?_eq_none (by omega)]
      | n + 4 => rfl
    · rintro i y (rfl | rfl) hy
      · rw [e0'] at hy
        cases hy
        refine ⟨by show Own w2 _ _ _ (ss ++ [_]).length _; rw [List.length_append]; exact ho, fun b hb => ?_⟩
        rcases hf b hb with h1 | h1
        · exact .inl ⟨_, e0, h1⟩
        · exact .inr h1
      · rw [e1'] at hy
        cases hy
        exact ⟨World.ownsRow_nil _ _ _ _, fun b hb => by cases hb⟩
    · rintro i j y z b (rfl | rfl) (rfl | rfl) hy hz hyb hzb hwb
      · rfl
      · rw [e1'] at hz
        cases hz
        cases hzb
      · rw [e1'] at hy
        cases hy
        cases hyb
      · rfl
  refine ⟨block_set hG2 _, henv.keeps kG (fun b e => e), h.lG, ?_, h.lm, h.lc, by rw [List.length_append]; simp; omega⟩
  refine (h.kp.trans k (fun j hj e => ?_)).trans kG (fun j hj e => ?_)
  · exact (h.env.lw (0, 2) _ j e0 e).1.resolve_right (by omega)
  · subst e
    exact h.lG.resolve_right (by omega)

set_option maxRecDepth 100000 in
set_option maxHeartbeats 2000000 in
theorem new_calls (a b : Int) (na nb : Nat) (ha : min (max a 0) 4 = (na : Int)) (hb : min (max b 0) 4 = (nb : Int)) (A : Option Addr) (bb off len cap : Nat) (w : World) (zs : List Int) (h : IntsAt .i64 w A bb off len zs) (hcap : len ≤ cap) :
    Calls Try.prog 8 #[.int .i64 a, .int .i64 b, .slice A len cap] w fun e w' => ∃ G vm vc vs, e = .returned (.pointer (some ⟨G, 0, none⟩)) ∧ GAt ⟨w, NoBlock⟩ G vm vc vs (List.replicate na m0) (List.replicate nb c0) ((zs.take (min len 4)).map fun z => s0 (min (max z 0) 1048576)) w' := by
  have hna : na ≤ 4 := by omega
  have hnb : nb ≤ 4 := by omega
  have Ha := Lib.hid ha
  have Hb := Lib.hid hb
  have hca := Lib.hid (fun W => clamp_calls a 4 W)
  have hcb := Lib.hid (fun W => clamp_calls b 4 W)
  rw [ha] at hca
  rw [hb] at hcb
  have hm1 : ∀ w, (Instr.makeSlice 59 (.int .i64 (na : Int)) (.int .i64 (na : Int))).run Try.prog w = .ok (.slice (some ⟨w.heap.size, 0, none⟩) na na) (w.alloc (.cells (madeCells #[Value.slice none 0 0, .bool false, .int .i64 0] (na * 3)) 80)) := run_mk eM na (by omega) (by decide)
  have hm2 : ∀ w, (Instr.makeSlice 60 (.int .i64 (nb : Int)) (.int .i64 (nb : Int))).run Try.prog w = .ok (.slice (some ⟨w.heap.size, 0, none⟩) nb nb) (w.alloc (.cells (madeCells #[Value.slice none 0 0] nb) 66)) := fun w => by
    have := run_mk eR nb (by omega) (by decide) w
    rw [Nat.mul_one] at this
    exact this
  clear ha hb
  go_enter Try.func8, Try.ntmps8
  go_upto_region 1 with fail
  go_cut [7] from 10 to 17 (fun v wx => ∃ (G M C : Nat), v = .pointer (some ⟨G, 0, none⟩) ∧ GAt ⟨w, NoBlock⟩ G (.slice (some ⟨M, 0, none⟩) na na) (.slice (some ⟨C, 0, none⟩) nb nb) (.slice none 0 0) (List.replicate na m0) (List.replicate nb c0) [] wx)
  case first =>
    go_region_held3 (fun _ => True) (trivial)
      (first
      | (go_at_call_of 23 (Value.int .i64 a); refine (hca.out _).mono ?_; rintro e w2 ⟨rfl, rfl⟩)
      | (go_at_call_of 23 (Value.int .i64 b); refine (hcb.out _).mono ?_; rintro e w2 ⟨rfl, rfl⟩)
      | fail)
    all_goals go_wp2_with fail
    all_goals go_meet
    all_goals
      first
      | (refine ⟨_, w.heap.size, w.heap.size + 1, rfl, gat_new ?_ (blk_drew (block_alloc_old (block_alloc_old (block_alloc_new w _)))) (blk_drew (block_alloc_old (blk_new (by simp)))) (blk_drew (blk_new (by simp))) ?_ ?_ ?_ ?_ ?_ ?_ hna hnb⟩
         · repeat (first | with_reducible exact Keeps.refl _ _ | with_reducible refine Keeps.alloc ?_ _ | with_reducible refine Keeps.drew ?_)
         all_goals first | omega | (simp; done) | (simp; omega))
      | (refine ⟨_, w.heap.size + 1, w.heap.size, rfl, gat_new ?_ (blk_drew (block_alloc_old (blk_new (by simp)))) (blk_drew (block_alloc_old (block_alloc_old (block_alloc_new w _)))) (blk_drew (blk_new (by simp))) ?_ ?_ ?_ ?_ ?_ ?_ hna hnb⟩
         · repeat (first | with_reducible exact Keeps.refl _ _ | with_reducible refine Keeps.alloc ?_ _ | with_reducible refine Keeps.drew ?_)
         all_goals first | omega | (simp; done) | (simp; omega))
  case rest =>
    obtain ⟨G, M, C, rfl, HG⟩ := hcut
    have hG := Lib.hid HG
    clear HG hca hcb hm1 hm2
    obtain ⟨L, hL4, hLn, hLe⟩ : ∃ L : Nat, L ≤ 4 ∧ L ≤ len ∧ min (len : Int) 4 = (L : Int) := ⟨min len 4, by omega, by omega, by omega⟩
    have hLc : L ≤ cap := by omega
    have hsl := run_slice_to eI A len cap L hLc
    have Hh := Lib.hid h
    have HLn := Lib.hid hLn
    clear h
    go_wp2_with fail
    go_loopw [24] (fun i wr => ∃ (k : Nat) (vs : Value), k ≤ L ∧ i = .int .i64 k ∧ GAt ⟨w, NoBlock⟩ G (.slice (some ⟨M, 0, none⟩) na na) (.slice (some ⟨C, 0, none⟩) nb nb) vs (List.replicate na m0) (List.replicate nb c0) ((zs.take k).map fun z => s0 (min (max z 0) 1048576)) wr) (fun i _ => L - (intOf i).toNat)
    case atStart => exact ⟨0, _, Nat.zero_le _, rfl, hG.out⟩
    case round =>
      obtain ⟨k, vs, hk, rfl, HGk⟩ := hrel
      have HR := Lib.hid HGk
      clear HGk
      by_cases hlt : k < L
      · obtain ⟨z, hz⟩ : ∃ z, zs[k]? = some z := ⟨_, List.getElem?_eq_getElem (by have := Hh.out.length; omega)⟩
        have hzc : wr.cell? ⟨bb, off + k, none⟩ = some (.int .i64 z) := by
          have := (Hh.out.keeps HR.out.kp (fun e => e)).cell k (by omega)
          rw [this, List.getD_eq_getElem?_getD, hz]; rfl
        obtain rfl := Hh.out.addr (by omega)
        obtain ⟨ss, hss⟩ : ∃ ss, (zs.take k).map (fun z => s0 (min (max z 0) 1048576)) = ss := ⟨_, rfl⟩
        have hsl2 : ss.length = k := by rw [← hss, List.length_map, List.length_take]; have := Hh.out.length; omega
        have hnext : Hid ((zs.take (k + 1)).map (fun z => s0 (min (max z 0) 1048576)) = ss ++ [s0 (min (max z 0) 1048576)]) := by
          show _ = _
          rw [List.take_add_one, hz, Option.toList_some, List.map_append, hss]; rfl
        rw [hss] at HR
        have hos := HR.out.os
        rw [hsl2] at hos
        obtain ⟨A5, c5, rfl, _⟩ := own_len hos
        have HOS := Lib.hid hos
        have hk0 : (0 : Int) ≤ (k : Int) := by omega
        have hkL : (k : Int) < (L : Int) := by omega
        have hwk : IntKind.i64.wrap ((k : Int) + 1) = (k : Int) + 1 := by rw [IntKind.wrap_i64]; omega
        have g2 : wr.cell? ⟨G, 2, none⟩ = some (.slice A5 k c5) := cell_of_block HR.out.head (o := 2) rfl
        have gf : wr.frozen? ⟨G, 2, none⟩ = false := frozen_of_block HR.out.head
        have hGw := lt_of_block HR.out.head
        have hGn : Hid ((Value.slice A5 k c5).ownBlock ≠ some G) := fun e => (HR.out.env.lw (0, 2) _ G rfl e).2 rfl
        obtain ⟨t, ht⟩ : ∃ t : Int, min (max z 0) 1048576 = t := ⟨_, rfl⟩
        have hcl := Lib.hid (fun W => clamp_calls z 1048576 W)
        rw [ht] at hcl hnext
        have Hsl2 := Lib.hid hsl2
        clear hz hss hos ht hsl2
        go_upto_region 5 with fail
        go_region_law
          (first
          | (refine step_app (P := Try.prog) eS ?_ (.tmp 32) (.tmp 36) ?_ (.slice A5 k c5) k (ss.flatMap encS) ?_ ?_ ⟨wr.heap.size, 0, none⟩ 1 1 [.slice none 0 0, .int .i64 t] ?_ ?_ (newsB (e := 68) ?_) ?_ ?_ ?_ ?_
             · rfl
             · rfl
             · simp [Act.eval]
             · repeat (first | with_reducible exact HOS.out | with_reducible refine World.ownsRow.alloc ?_ _ | with_reducible refine World.ownsRow.drew ?_)
             · simp [Act.eval]
             · rfl
             · repeat (first | with_reducible exact block_alloc_new _ _ | with_reducible refine blk_drew ?_)
             · simp [Value.oneCell']
             · simp only [maxLen]; omega
             · omega
             intro v5 w5 ho5 hg5 hf5 hs5
             obtain ⟨A6, c6, rfl⟩ := Own.isSlice ho5
             have K5 : Keeps (fun b => (Value.slice A5 k c5).ownBlock = some b) wr w5 := by
               refine Keeps.grown ?_ hg5 (fun b hb => .inl hb)
               repeat (first | with_reducible exact Keeps.refl _ _ | with_reducible refine Keeps.alloc ?_ _ | with_reducible refine Keeps.drew ?_)
             have g5 := (K5.cell (o := 2) hGw hGn.out).trans g2
             have gf5 := (K5.frozen (o := 2) hGw hGn.out).trans gf
             clear hs5)
          | (go_simp; go_at_call 23; refine (hcl.out _).mono ?_; rintro e w3 ⟨rfl, rfl⟩))
        all_goals go_wp2_with fail
        all_goals
          refine ⟨⟨k + 1, .slice A6 (k + 1) c6, by omega, by simp, ?_⟩, by simp [intOf]; omega⟩
          rw [hnext.out]
          refine GAt.pushS HR.out t ?_ K5 (fun j hj => ?_) (by rw [Hsl2.out]; omega)
          · rw [Hsl2.out, List.flatMap_append]
            exact ho5
          · rcases hf5 j hj with h1 | h1
            · exact .inl h1
            · first
              | (simp only [World.size_alloc, World.size_drew] at h1; right; omega)
              | (right; omega)
      · obtain rfl : k = L := by omega
        go_wp2_with fail
        go_ret
        exact ⟨G, _, _, vs, rfl, by rw [show min len 4 = k by omega]; exact HR.out⟩

end Gt
end Go.Proofs.Ytlgolofcpokndaa
