/- Package inst: may a program be. -/
import Derived.Test.YtlnfjjbfdbcgbaaInstC
import Derived.Test.YtlnfjjbfdbcgbaaArg
namespace Go.Proofs.Ytlnfjjbfdbcgbaa
open Go.RowKit

/-- Instructions as numbers: Op, A, B, C, N. -/
abbrev In5 := Int × Int × Int × Int × Int
def enc5 (x : In5) : List Value := [.int .i64 x.1, .int .i64 x.2.1, .int .i64 x.2.2.1, .int .i64 x.2.2.2.1, .int .u64 x.2.2.2.2]
def ok5 (x : In5) : Prop := 0 ≤ x.2.2.2.2 ∧ x.2.2.2.2 < 18446744073709551616

/-- A program as numbers. -/
structure Pg where
  funcs : List (List In5)
  words : Int
  mutexes : Int
  conds : Int
  sems : List Int
  pipes : List Int
  blocks : Int
  prio : Int

/-- A slice of slices of instructions. -/
structure FuncsAt (w : World) (A : Option Addr) (b off len : Nat) (xs : List (List In5)) : Prop where
  addr : 0 < len → A = some ⟨b, off, none⟩
  cell : ∀ (k : Nat) (l : List In5), xs[k]? = some l → ∃ a b' off' c, w.cell? ⟨b, off + k, none⟩ = some (.slice a l.length c) ∧ FlatAt enc5 ok5 5 w a b' off' l.length l ∧ l.length ≤ 1000000000000000
  length : xs.length = len

theorem FuncsAt.keeps {w w' : World} {A : Option Addr} {b off len : Nat} {xs : List (List In5)} (h : FuncsAt w A b off len xs) (k : Keeps NoBlock w w') : FuncsAt w' A b off len xs :=
  ⟨h.addr, fun j l hj => by
    obtain ⟨a, b', off', c, h1, h2, h3⟩ := h.cell j l hj
    exact ⟨a, b', off', c, by rw [k.cell (World.block_lt_of_cell? w _ h1) (fun h => h), h1], h2.keeps k (fun h => h), h3⟩, h.length⟩

structure ProgAt (w : World) (v : Value) (p : Pg) : Prop where
  value : ∃ (fa sa pa : Option Addr) (nf fc ns sc np pc fb fo sb so pb po : Nat), v = .agg #[.slice fa nf fc, .int .i64 p.words, .int .i64 p.mutexes, .int .i64 p.conds, .slice sa ns sc, .slice pa np pc, .int .i64 p.blocks, .int .i64 p.prio] ∧
    FuncsAt w fa fb fo nf p.funcs ∧ IntsAt .i64 w sa sb so ns p.sems ∧ IntsAt .i64 w pa pb po np p.pipes ∧ nf ≤ 1000000000000000 ∧ ns ≤ 1000000000000000 ∧ np ≤ 1000000000000000
  mutexes : p.mutexes < 9223372036854775808
  conds : p.conds < 9223372036854775808

theorem ProgAt.keeps {w w' : World} {v : Value} {p : Pg} (h : ProgAt w v p) (k : Keeps NoBlock w w') : ProgAt w' v p := by
  obtain ⟨⟨fa, sa, pa, nf, fc, ns, sc, np, pc, fb, fo, sb, so, pb, po, hv, hF, hS, hP, hb⟩, h1, h2⟩ := h
  exact ⟨⟨fa, sa, pa, nf, fc, ns, sc, np, pc, fb, fo, sb, so, pb, po, hv, hF.keeps k, hS.keeps k (fun h => h), hP.keeps k (fun h => h), hb⟩, h1, h2⟩

theorem IntsAt.get {k : IntKind} {w : World} {A : Option Addr} {b off len : Nat} {zs : List Int} (h : IntsAt k w A b off len zs) {j : Nat} {x : Int} (hx : zs[j]? = some x) : w.cell? ⟨b, off + j, none⟩ = some (.int k x) := by
  have hj := (List.getElem?_eq_some_iff.1 hx).1
  rw [h.cell j (by rw [← h.length]; exact hj)]
  rw [List.getD_eq_getElem?_getD, hx]
  rfl

def capsH (nf W M C ns np B R : Int) : Bool := decide (0 < nf) && decide (nf ≤ 8) && wiB W 64 && wiB M 4 && wiB C 4 && wiB B 64 && wiB R 7 && decide (ns ≤ 4) && decide (np ≤ 4)
def capsB (p : Pg) : Bool := capsH p.funcs.length p.words p.mutexes p.conds p.sems.length p.pipes.length p.blocks p.prio && p.funcs.all (fun l => decide (l.length ≤ 256)) && p.sems.all (fun n => wiB n 1048576) && p.pipes.all (fun n => decide (0 < n) && wiB n 8)

theorem all_snoc {α : Type} (l : List α) (f : α → Bool) (k : Nat) (x : α) (h : l[k]? = some x) : (l.take (k + 1)).all f = ((l.take k).all f && f x) := by
  rw [List.take_add_one, h]
  simp

set_option maxRecDepth 100000 in
set_option maxHeartbeats 1000000 in
theorem caps_calls (v : Value) (p : Pg) (w : World) (h : ProgAt w v p) : Calls Try.prog 24 #[v] w (BoolPost w (capsB p)) := by
  obtain ⟨⟨fa, sa, pa, nf, fc, ns, sc, np, pc, fb, fo, sb, so, pb, po, rfl, hF, hS, hP, hb1, hb2, hb3⟩, hM, hC⟩ := h
  obtain ⟨funcs, W, M, C, sems, pipes, B, R⟩ := p
  simp only [] at hF hS hP hM hC ⊢
  have HF := Lib.hid hF
  have HS := Lib.hid hS
  have HP := Lib.hid hP
  clear hF hS hP
  obtain ⟨ch, hch⟩ : ∃ c, Hid (c = capsH nf W M C ns np B R) := ⟨_, rfl⟩
  go_enter Try.func24, Try.ntmps24
  go_upto_region 1 with fail
  go_cut [3] from 10 to 56 (fun v wx => v = .bool ch ∧ wx = w.alloc (.cells #[.slice fa nf fc, .int .i64 W, .int .i64 M, .int .i64 C, .slice sa ns sc, .slice pa np pc, .int .i64 B, .int .i64 R] 25))
  case first =>
    by_cases a0 : 0 < nf
    · by_cases a1 : nf ≤ 8
      · cases a2 : wiB W 64 with
        | false =>
          go_wp2_with (go_at_call 33; refine (within_calls _ _ _).mono ?_; rintro e w' ⟨rfl, rfl⟩)
          go_meet
          case rel => exact ⟨congrArg Value.bool (by rw [hch.out]; simp [capsH, *] <;> (intros; omega)), rfl⟩
        | true =>
          cases a3 : wiB M 4 with
          | false =>
            go_wp2_with (go_at_call 33; refine (within_calls _ _ _).mono ?_; rintro e w' ⟨rfl, rfl⟩)
            go_meet
            case rel => exact ⟨congrArg Value.bool (by rw [hch.out]; simp [capsH, *] <;> (intros; omega)), rfl⟩
          | true =>
            cases a4 : wiB C 4 with
            | false =>
              go_wp2_with (go_at_call 33; refine (within_calls _ _ _).mono ?_; rintro e w' ⟨rfl, rfl⟩)
              go_meet
              case rel => exact ⟨congrArg Value.bool (by rw [hch.out]; simp [capsH, *] <;> (intros; omega)), rfl⟩
            | true =>
              cases a5 : wiB B 64 with
              | false =>
                go_wp2_with (go_at_call 33; refine (within_calls _ _ _).mono ?_; rintro e w' ⟨rfl, rfl⟩)
                go_meet
                case rel => exact ⟨congrArg Value.bool (by rw [hch.out]; simp [capsH, *] <;> (intros; omega)), rfl⟩
              | true =>
                cases a6 : wiB R 7 with
                | false =>
                  go_wp2_with (go_at_call 33; refine (within_calls _ _ _).mono ?_; rintro e w' ⟨rfl, rfl⟩)
                  go_meet
                  case rel => exact ⟨congrArg Value.bool (by rw [hch.out]; simp [capsH, *] <;> (intros; omega)), rfl⟩
                | true =>
                  by_cases a7 : ns ≤ 4
                  · by_cases a8 : np ≤ 4
                    · go_wp2_with (go_at_call 33; refine (within_calls _ _ _).mono ?_; rintro e w' ⟨rfl, rfl⟩)
                      go_meet
                      case rel => exact ⟨congrArg Value.bool (by rw [hch.out]; simp [capsH, *] <;> (intros; omega)), rfl⟩
                    · go_wp2_with (go_at_call 33; refine (within_calls _ _ _).mono ?_; rintro e w' ⟨rfl, rfl⟩)
                      go_meet
                      case rel => exact ⟨congrArg Value.bool (by rw [hch.out]; simp [capsH, *] <;> (intros; omega)), rfl⟩
                  · go_wp2_with (go_at_call 33; refine (within_calls _ _ _).mono ?_; rintro e w' ⟨rfl, rfl⟩)
                    go_meet
                    case rel => exact ⟨congrArg Value.bool (by rw [hch.out]; simp [capsH, *] <;> (intros; omega)), rfl⟩
      · go_wp2_with (go_at_call 33; refine (within_calls _ _ _).mono ?_; rintro e w' ⟨rfl, rfl⟩)
        go_meet
        case rel => exact ⟨congrArg Value.bool (by rw [hch.out]; simp [capsH, *] <;> (intros; omega)), rfl⟩
    · go_wp2_with (go_at_call 33; refine (within_calls _ _ _).mono ?_; rintro e w' ⟨rfl, rfl⟩)
      go_meet
      case rel => exact ⟨congrArg Value.bool (by rw [hch.out]; simp [capsH, *] <;> (intros; omega)), rfl⟩
  case rest =>
    obtain ⟨rfl, rfl⟩ := hcut
    go_wp2_with fail
    go_loop [3, 60] (fun v i => ∃ k : Nat, k ≤ nf ∧ i = .int .i64 k ∧ ∃ ok : Bool, v = .bool ok ∧ Hid (ok = (ch && (funcs.take k).all (fun l => decide (l.length ≤ 256))))) (fun _ i => nf - (intOf i).toNat)
    case atStart => exact ⟨0, Nat.zero_le _, rfl, ch, rfl, by unfold Hid; simp⟩
    case round =>
      obtain ⟨k, hk, rfl, ok, rfl, hok⟩ := hrel
      by_cases hlt : k < nf
      · obtain ⟨l, hl⟩ : ∃ l, funcs[k]? = some l := ⟨_, List.getElem?_eq_getElem (by rw [HF.out.length]; exact hlt)⟩
        obtain ⟨a, b', off', c, hcl, _, hl256⟩ := HF.out.cell k l hl
        have hfb : fb < w.heap.size := World.block_lt_of_cell? w _ hcl
        have hadr := HF.out.addr (by omega)
        subst hadr
        have hn : Hid ((funcs.take (k + 1)).all (fun l => decide (l.length ≤ 256)) = ((funcs.take k).all (fun l => decide (l.length ≤ 256)) && decide (l.length ≤ 256))) := all_snoc funcs _ k l hl
        have Hl := Lib.hid hl
        clear hl
        cases ok with
        | false =>
          go_wp2_with fail
          go_round
          case rel => exact ⟨k + 1, by omega, by go_num, false, rfl, by unfold Hid; rw [hn.out, ← Bool.and_assoc, ← hok.out]; rfl⟩
          case measure => simp [intOf]; omega
        | true =>
          by_cases h256 : l.length ≤ 256
          all_goals
            go_wp2_with fail
            go_round
            case rel => exact ⟨k + 1, by omega, by go_num, _, rfl, by unfold Hid; rw [hn.out, ← Bool.and_assoc, ← hok.out]; simp [h256] <;> omega⟩
            case measure => simp [intOf]; omega
      · obtain rfl : k = nf := by omega
        have hlen := HF.out.length
        have hok1 : Hid (ok = (ch && funcs.all (fun l => decide (l.length ≤ 256)))) := by unfold Hid; rw [hok.out, List.take_of_length_le (by omega)]
        clear hok hlen
        go_wp2_with fail
        obtain ⟨c1, hc1⟩ : ∃ c1, c1 = ok := ⟨_, rfl⟩
        subst hc1
        go_loop [3, 74] (fun v i => ∃ q : Nat, q ≤ ns ∧ i = .int .i64 q ∧ ∃ ok : Bool, v = .bool ok ∧ Hid (ok = (c1 && (sems.take q).all (fun n => wiB n 1048576)))) (fun _ i => ns - (intOf i).toNat)
        case atStart => exact ⟨0, Nat.zero_le _, rfl, c1, rfl, by unfold Hid; simp⟩
        case round =>
          obtain ⟨q, hq, rfl, ok, rfl, hok⟩ := hrel
          by_cases hlt : q < ns
          · obtain ⟨x, hx⟩ : ∃ x, sems[q]? = some x := ⟨_, List.getElem?_eq_getElem (by rw [HS.out.length]; exact hlt)⟩
            have hcl := HS.out.get hx
            have hfb : sb < w.heap.size := World.block_lt_of_cell? w _ hcl
            have hadr := HS.out.addr (by omega)
            subst hadr
            have hn : Hid ((sems.take (q + 1)).all (fun n => wiB n 1048576) = ((sems.take q).all (fun n => wiB n 1048576) && wiB x 1048576)) := all_snoc sems _ q x hx
            have Hx := Lib.hid hx
            clear hx
            cases ok with
            | false =>
              go_wp2_with fail
              go_round
              case rel => exact ⟨q + 1, by omega, by go_num, false, rfl, by unfold Hid; rw [hn.out, ← Bool.and_assoc, ← hok.out]; rfl⟩
              case measure => simp [intOf]; omega
            | true =>
              go_wp2_with fail
              refine (within_calls _ _ _).mono ?_
              rintro e w' ⟨rfl, rfl⟩
              go_wp2_with fail
              go_round
              case rel => exact ⟨q + 1, by omega, by go_num, _, rfl, by unfold Hid; rw [hn.out, ← Bool.and_assoc, ← hok.out]; rfl⟩
              case measure => simp [intOf]; omega
          · obtain rfl : q = ns := by omega
            have hlen := HS.out.length
            have hok2 : Hid (ok = (c1 && sems.all (fun n => wiB n 1048576))) := by unfold Hid; rw [hok.out, List.take_of_length_le (by omega)]
            clear hok hlen
            go_wp2_with fail
            obtain ⟨c2, hc2⟩ : ∃ c2, c2 = ok := ⟨_, rfl⟩
            subst hc2
            go_loop [3, 87] (fun v i => ∃ q : Nat, q ≤ np ∧ i = .int .i64 q ∧ ∃ ok : Bool, v = .bool ok ∧ Hid (ok = (c2 && (pipes.take q).all (fun n => decide (0 < n) && wiB n 8)))) (fun _ i => np - (intOf i).toNat)
            case atStart => exact ⟨0, Nat.zero_le _, rfl, c2, rfl, by unfold Hid; simp⟩
            case round =>
              obtain ⟨q, hq, rfl, ok, rfl, hok⟩ := hrel
              by_cases hlt : q < np
              · obtain ⟨x, hx⟩ : ∃ x, pipes[q]? = some x := ⟨_, List.getElem?_eq_getElem (by rw [HP.out.length]; exact hlt)⟩
                have hcl := HP.out.get hx
                have hfb : pb < w.heap.size := World.block_lt_of_cell? w _ hcl
                have hadr := HP.out.addr (by omega)
                subst hadr
                have hn : Hid ((pipes.take (q + 1)).all (fun n => decide (0 < n) && wiB n 8) = ((pipes.take q).all (fun n => decide (0 < n) && wiB n 8) && (decide (0 < x) && wiB x 8))) := all_snoc pipes _ q x hx
                have Hx := Lib.hid hx
                clear hx
                cases ok with
                | false =>
                  go_wp2_with fail
                  go_round
                  case rel => exact ⟨q + 1, by omega, by go_num, false, rfl, by unfold Hid; rw [hn.out, ← Bool.and_assoc, ← hok.out]; rfl⟩
                  case measure => simp [intOf]; omega
                | true =>
                  by_cases hx0 : 0 < x
                  · go_wp2_with fail
                    refine (within_calls _ _ _).mono ?_
                    rintro e w' ⟨rfl, rfl⟩
                    go_wp2_with fail
                    go_round
                    case rel => exact ⟨q + 1, by omega, by go_num, _, rfl, by unfold Hid; rw [hn.out, ← Bool.and_assoc, ← hok.out]; simp [hx0]⟩
                    case measure => simp [intOf]; omega
                  · have hx1 : x ≤ 0 := by omega
                    go_wp2_with fail
                    go_round
                    case rel => exact ⟨q + 1, by omega, by go_num, _, rfl, by unfold Hid; rw [hn.out, ← Bool.and_assoc, ← hok.out]; simp [hx0]⟩
                    case measure => simp [intOf]; omega
              · obtain rfl : q = np := by omega
                have hlen := HP.out.length
                have hok3 : Hid (ok = (c2 && pipes.all (fun n => decide (0 < n) && wiB n 8))) := by unfold Hid; rw [hok.out, List.take_of_length_le (by omega)]
                clear hok hlen
                have hl1 := HF.out.length
                have hl2 := HS.out.length
                have hl3 := HP.out.length
                have hfin : Hid (ok = capsB ⟨funcs, W, M, C, sems, pipes, B, R⟩) := by unfold Hid capsB; simp only []; rw [hok3.out, hok2.out, hok1.out, hch.out, hl1, hl2, hl3]
                clear hl1 hl2 hl3
                go_wp2_with fail
                go_ret
                exact ⟨ret_bool hfin.out, (Keeps.refl _ w).alloc _⟩
end Go.Proofs.Ytlnfjjbfdbcgbaa
