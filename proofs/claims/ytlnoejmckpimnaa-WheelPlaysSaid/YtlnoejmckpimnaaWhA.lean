/- Package wheel: what a clock is in memory; New, Sleep, Now, Waiting. -/
import Derived.Test.YtlnoejmckpimnaaProg
import Derived.Test.YtlnoejmckpimnaaMem
import Derived.Maps.RangeWalk
import Derived.Maps.OwnSet
import Derived.Maps.OwnOps
import Derived.Maps.Views
import Derived.StillTailTactics
import Derived.Lib.MinMax
import Derived.Deep.DeepCutAuto
import Derived.Deep.CutBlock
import Derived.WalkKit
namespace Go.Proofs.Ytlnoejmckpimnaa
open Go.RowKit Go.Maps
namespace Wh

theorem underM : Try.prog.underlying 77 = some (.map 3 3) := by kernel_rfl
theorem underI : Try.prog.underlying 3 = some (.int .i64) := by kernel_rfl
theorem lawI : Keyed Try.prog 3 := int_keyed underI
theorem zeroI (w : World) : (zeroValue 3).run Try.prog w = .ok (.int .i64 0) w := by kernel_rfl

abbrev DU := DataW Unit
abbrev key (k : Int) : Lit := .int .i64 k
abbrev num (k : Int) : DU := .lit (.int .i64 k)
abbrev Wf (k : Int) : Prop := (Lit.int .i64 k).wf = true

/-- A map of numbers that are not nought, as a function. -/
structure Rep (D : DU) (f : Int → Int) : Prop where
  mp : IsMap D
  has : ∀ k, Maps.has D (key k) = !decide (f k = 0)
  at_ : ∀ k, D.atKey (key k) (num 0) = num (f k)

theorem key_ne {k k' : Int} (h : k' ≠ k) : key k' ≠ key k := fun e => h (by injection e)

theorem Rep.nil : Rep (.map []) (fun _ => 0) := ⟨⟨[], rfl⟩, fun _ => rfl, fun _ => rfl⟩

theorem Rep.put {D : DU} {f : Int → Int} (h : Rep D f) (k v : Int) (hv : v ≠ 0) : Rep (D.put (key k) (num v)) (fun x => if x = k then v else f x) := by
  refine ⟨h.mp.put _ _, fun x => ?_, fun x => ?_⟩
  · by_cases e : x = k
    · subst e
      rw [has_put_same (k := key x) h.mp trivial, if_pos rfl]; simp [hv]
    · rw [has_put_other (key_ne e), h.has, if_neg e]
  · by_cases e : x = k
    · subst e
      rw [atKey_put_same (k := key x) h.mp trivial, if_pos rfl]
    · rw [atKey_put_other (key_ne e), h.at_, if_neg e]

theorem Rep.del {D : DU} {f : Int → Int} (h : Rep D f) (k : Int) : Rep (D.del (key k)) (fun x => if x = k then 0 else f x) := by
  refine ⟨h.mp.del _, fun x => ?_, fun x => ?_⟩
  · by_cases e : x = k
    · subst e
      rw [has_del_same, if_pos rfl]; rfl
    · rw [has_del_other (key_ne e), h.has, if_neg e]
  · by_cases e : x = k
    · subst e
      rw [atKey_del_same, if_pos rfl]
    · rw [atKey_del_other (key_ne e), h.at_, if_neg e]

abbrev Own1 (w : World) (mb n : Nat) (D : DU) : Prop := w.ownsMap Try.prog 3 (plainElem Try.prog 3) mb n D

/-- A clock at block d, its map at block mb: at most n wait; f says until when (0: nobody). -/
structure WhAt (w : World) (d mb n : Nat) (now : Int) (f : Int → Int) : Prop where
  head : w.heap[d]? = some (.cells #[.int .i64 now, .map (some mb)] 79 (0, 0))
  own : ∃ D, Own1 w mb n D ∧ Rep D f
  ne : d ≠ mb
  now0 : 0 ≤ now
  now1 : now ≤ 1099511627776
  lo : ∀ k, f k = 0 ∨ 1 ≤ f k

theorem WhAt.keeps {w w' : World} {d mb n : Nat} {now : Int} {f : Int → Int} {S : Nat → Prop} (h : WhAt w d mb n now f) (k : Keeps S w w') (h1 : ¬ S d) (h2 : ¬ S mb) : WhAt w' d mb n now f := by
  obtain ⟨D, ho, hr⟩ := h.own
  refine ⟨(k.block _ (lt_of_block h.head) h1).trans h.head, ⟨D, ?_, hr⟩, h.ne, h.now0, h.now1, h.lo⟩
  obtain ⟨es, c, hb, rest⟩ := ho
  exact ⟨es, c, (k.block _ (lt_of_block hb) h2).trans hb, rest⟩

theorem WhAt.lt {w : World} {d mb n : Nat} {now : Int} {f : Int → Int} (h : WhAt w d mb n now f) : mb < w.heap.size := by
  obtain ⟨D, ho, _⟩ := h.own
  exact ho.lt

theorem keeps_turned {w w' : World} {mb : Nat} (h : w.mapTurned w' mb) : Keeps (fun b => b = mb) w w' :=
  ⟨h.grown.os, h.grown.tape, h.grown.output, h.grown.size, fun k hk hne => h.grown.block k hk (fun e => hne (by injection e))⟩

theorem keeps_grown {w w' : World} {mb : Nat} (h : w.grownBy w' (some mb)) : Keeps (fun b => b = mb) w w' :=
  ⟨h.os, h.tape, h.output, h.size, fun k hk hne => h.block k hk (fun e => hne (by injection e))⟩

theorem new_calls (w : World) : Calls Try.prog 19 #[] w fun e w' => ∃ d mb, e = .returned (.pointer (some ⟨d, 0, none⟩)) ∧ w.heap.size ≤ d ∧ w.heap.size ≤ mb ∧ WhAt w' d mb 0 0 (fun _ => 0) ∧ Keeps NoBlock w w' := by
  have hmm := @run_makeMap Try.prog
  go_enter Try.func19, Try.ntmps19
  go_wp2_with fail
  go_ret
  refine ⟨w.heap.size + 1, w.heap.size, rfl, Nat.le_succ _, Nat.le_refl _, ⟨?_, ⟨.map [], ?_, Rep.nil⟩, by omega, by decide, by decide, fun _ => .inl rfl⟩, ((Keeps.refl NoBlock w).alloc _).alloc _⟩
  · exact blk_new (by simp)
  · exact (World.ownsMap_made w Try.prog 3 _).alloc _

theorem sleep_nil (who n : Int) (w : World) : Calls Try.prog 20 #[.pointer none, .int .i64 who, .int .i64 n] w fun e w' => e = .returned (.int .i64 1) ∧ w = w' := by
  go_enter Try.func20, Try.ntmps20
  go_wp2_with fail
  go_ret
  exact ⟨rfl, rfl⟩

theorem sleep_bad (d : Nat) (who n : Int) (w : World) (hn : n < 1 ∨ 1099511627776 < n) : Calls Try.prog 20 #[.pointer (some ⟨d, 0, none⟩), .int .i64 who, .int .i64 n] w fun e w' => e = .returned (.int .i64 1) ∧ w = w' := by
  rcases hn with hn | hn
  · go_enter Try.func20, Try.ntmps20
    go_wp2_with fail
    go_ret
    exact ⟨rfl, rfl⟩
  · have h1 : (1 : Int) ≤ n := by omega
    go_enter Try.func20, Try.ntmps20
    go_wp2_with fail
    go_ret
    exact ⟨rfl, rfl⟩

theorem num_inj {D : DU} {k : Lit} {u c : Int} (h0 : D.atKey k (num 0) = num u) (h : D.atKey k (.lit (.int .i64 0)) = .lit (.int .i64 c)) : u = c := by
  rw [h0] at h
  injection h with h
  injection h

set_option maxRecDepth 100000 in
theorem sleep_busy {w : World} {d mb N : Nat} {now : Int} {f : Int → Int} (h : WhAt w d mb N now f) (who n : Int) (hw : Wf who) (h1 : 1 ≤ n) (h2 : n ≤ 1099511627776) (hf : f who ≠ 0) :
    Calls Try.prog 20 #[.pointer (some ⟨d, 0, none⟩), .int .i64 who, .int .i64 n] w fun e w' => e = .returned (.int .i64 4) ∧ w = w' := by
  obtain ⟨D, hown, hrep⟩ := h.own
  have c1 := cell_of_block (o := 1) h.head rfl
  have hu : 0 < f who := by rcases h.lo who with e | e; exact absurd e hf; omega
  have hat0 := hrep.at_ who
  have hkey := keyOf_int_mk underI hw
  generalize f who = u at hu hat0
  have Hat := Lib.hid hat0
  clear hat0 hrep hf h
  go_enter Try.func20, Try.ntmps20
  go_wp2_with (first
    | (at_lookup; refine wpList_lookup_own_int _ rfl _ _ 77 rfl 3 3 .i64 lawI underM underI (zeroI _) mb N D rfl hown _ _ rfl hkey ?_; intro c hat _; obtain rfl := num_inj Hat.out hat; clear hat)
    | fail)
  go_ret
  exact ⟨rfl, rfl⟩

set_option maxRecDepth 100000 in
theorem sleep_ok {w : World} {d mb N : Nat} {now : Int} {f : Int → Int} (h : WhAt w d mb N now f) (who n : Int) (hw : Wf who) (h1 : 1 ≤ n) (h2 : n ≤ 1099511627776) (hf : f who = 0) (hN : N ≤ 1000) :
    Calls Try.prog 20 #[.pointer (some ⟨d, 0, none⟩), .int .i64 who, .int .i64 n] w fun e w' => e = .returned (.int .i64 0) ∧ WhAt w' d mb (N + 1) now (fun x => if x = who then min (now + n) 1099511627776 else f x) ∧ Keeps (fun b => b = mb) w w' := by
  obtain ⟨D, hown, hrep⟩ := h.own
  have c1 := cell_of_block (o := 1) h.head rfl
  have c0 := cell_of_block (o := 0) h.head rfl
  have hat0 := hrep.at_ who
  rw [hf] at hat0
  have hkey := keyOf_int_mk underI hw
  have Hat := Lib.hid hat0
  have hn0 := h.now0
  have hn1 := h.now1
  have hwr : IntKind.i64.wrap (now + n) = now + n := by rw [IntKind.wrap_i64]; omega
  obtain ⟨t, ht⟩ : ∃ t : Int, min (now + n) 1099511627776 = t := ⟨_, rfl⟩
  have ht0 : 1 ≤ t := by omega
  have ht1 : Wf t := WalkArith.wf_i64 (by omega)
  have Hn0 := Lib.hid hn0
  have Hn1 := Lib.hid hn1
  have Hf := Lib.hid hf
  have H := Lib.hid h
  have Hrep := Lib.hid hrep
  rw [ht]
  clear hat0 hrep hf h hn0 hn1
  go_enter Try.func20, Try.ntmps20
  go_upto_region 5 with (first
    | (at_lookup; refine wpList_lookup_own_int _ rfl _ _ 77 rfl 3 3 .i64 lawI underM underI (zeroI _) mb N D rfl hown _ _ rfl hkey ?_; intro c hat _; obtain rfl := num_inj Hat.out hat; clear hat)
    | fail)
  go_still_tail 12, (by kernel_rfl)
  have hm0 : w.drew.cell? ⟨d, 0, none⟩ = some (.int .i64 now) := c0
  have hown1 : w.drew.ownsMap Try.prog 3 (plainElem Try.prog 3) mb N D := hown.drew
  change wpList _ _ _ _ _ w.drew
  have Hk : Hid (Keeps (fun b => b = mb) w w.drew) := (Keeps.refl _ w).drew
  generalize w.drew = w2 at hm0 hown1 Hk ⊢
  go_wp2_with (first
    | (at_mapUpdate; refine wpList_mapUpdate_in _ rfl _ _ _ 77 rfl 3 3 lawI underM _ mb N D rfl hown1 (by simp only [maxLen]; omega) _ _ _ rfl rfl hkey _ [] (plainElem_int underI ht1) ?_; intro w3 hown3 hturn3)
    | fail)
  go_ret
  have k3 : Keeps (fun b => b = mb) w w3 := Hk.out.trans (keeps_turned hturn3) (fun _ _ h => h)
  refine ⟨rfl, ⟨(k3.block _ (lt_of_block H.out.head) (fun e => H.out.ne e)).trans H.out.head, ⟨_, hown3, Hrep.out.put who t (by omega)⟩, H.out.ne, Hn0.out, Hn1.out, fun x => ?_⟩, k3⟩
  show (if x = who then t else f x) = 0 ∨ 1 ≤ (if x = who then t else f x)
  split
  · exact .inr ht0
  · exact H.out.lo x

theorem now_calls {w : World} {d mb N : Nat} {now : Int} {f : Int → Int} (h : WhAt w d mb N now f) : Calls Try.prog 24 #[.pointer (some ⟨d, 0, none⟩)] w fun e w' => e = .returned (.int .i64 now) ∧ w = w' := by
  have c0 := cell_of_block (o := 0) h.head rfl
  clear h
  go_enter Try.func24, Try.ntmps24
  go_wp2_with fail
  go_ret
  exact ⟨rfl, rfl⟩

theorem now_nil (w : World) : Calls Try.prog 24 #[.pointer none] w fun e w' => e = .returned (.int .i64 0) ∧ w = w' := by
  go_enter Try.func24, Try.ntmps24
  go_wp2_with fail
  go_ret
  exact ⟨rfl, rfl⟩

set_option maxRecDepth 100000 in
theorem waiting_calls {w : World} {d mb N : Nat} {now : Int} {f : Int → Int} (h : WhAt w d mb N now f) (who : Int) (hw : Wf who) : Calls Try.prog 26 #[.pointer (some ⟨d, 0, none⟩), .int .i64 who] w fun e w' => e = .returned (.tuple #[.int .i64 (f who), .bool (!decide (f who = 0))]) ∧ w = w' := by
  obtain ⟨D, hown, hrep⟩ := h.own
  have c1 := cell_of_block (o := 1) h.head rfl
  have hat0 := hrep.at_ who
  have hh := Lib.hid (hrep.has who)
  have hkey := keyOf_int_mk underI hw
  generalize f who = u at hat0 hh ⊢
  have Hat := Lib.hid hat0
  clear hat0 hrep h
  go_enter Try.func26, Try.ntmps26
  go_wp2_with (first
    | (at_lookup; refine wpList_lookup_own_ok_int _ rfl _ _ 77 rfl 3 3 .i64 lawI underM underI (zeroI _) mb N D rfl hown _ _ rfl hkey ?_; intro c hat _; obtain rfl := num_inj Hat.out hat; clear hat; rw [hh.out])
    | fail)
  go_ret2
  exact ⟨rfl, rfl⟩

end Wh
end Go.Proofs.Ytlnoejmckpimnaa
