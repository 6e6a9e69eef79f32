/- Programs and instructions as numbers (as layer 2 has them). -/
import Derived.Test.YtlnoejmckpimnaaFrB
import Derived.Test.YtlnoejmckpimnaaArg
namespace Go.Proofs.Ytlnoejmckpimnaa
open Go.RowKit

/-- Instructions as numbers: Op, A, B, C, N. -/
abbrev In5 := Int × Int × Int × Int × Int
def enc5 (x : In5) : List Value := [.int .i64 x.1, .int .i64 x.2.1, .int .i64 x.2.2.1, .int .i64 x.2.2.2.1, .int .u64 x.2.2.2.2]
def ok5 (x : In5) : Prop := 0 ≤ x.2.2.2.2 ∧ x.2.2.2.2 < 18446744073709551616

/-- A program as numbers. -/
structure Pg where
  funcs : List (List In5)
  words : Int
  mutexes : Int
  conds : Int
  sems : List Int
  pipes : List Int
  blocks : Int
  prio : Int

/-- A slice of slices of instructions. -/
structure FuncsAt (w : World) (A : Option Addr) (b off len : Nat) (xs : List (List In5)) : Prop where
  addr : 0 < len → A = some ⟨b, off, none⟩
  cell : ∀ (k : Nat) (l : List In5), xs[k]? = some l → ∃ a b' off' c, w.cell? ⟨b, off + k, none⟩ = some (.slice a l.length c) ∧ FlatAt enc5 ok5 5 w a b' off' l.length l ∧ l.length ≤ 1000000000000000
  length : xs.length = len

theorem FuncsAt.keeps {w w' : World} {A : Option Addr} {b off len : Nat} {xs : List (List In5)} (h : FuncsAt w A b off len xs) (k : Keeps NoBlock w w') : FuncsAt w' A b off len xs :=
  ⟨h.addr, fun j l hj => by
    obtain ⟨a, b', off', c, h1, h2, h3⟩ := h.cell j l hj
    exact ⟨a, b', off', c, by rw [k.cell (World.block_lt_of_cell? w _ h1) (fun h => h), h1], h2.keeps k (fun h => h), h3⟩, h.length⟩

structure ProgAt (w : World) (v : Value) (p : Pg) : Prop where
  value : ∃ (fa sa pa : Option Addr) (nf fc ns sc np pc fb fo sb so pb po : Nat), v = .agg #[.slice fa nf fc, .int .i64 p.words, .int .i64 p.mutexes, .int .i64 p.conds, .slice sa ns sc, .slice pa np pc, .int .i64 p.blocks, .int .i64 p.prio] ∧
    FuncsAt w fa fb fo nf p.funcs ∧ IntsAt .i64 w sa sb so ns p.sems ∧ IntsAt .i64 w pa pb po np p.pipes ∧ nf ≤ 1000000000000000 ∧ ns ≤ 1000000000000000 ∧ np ≤ 1000000000000000
  mutexes : p.mutexes < 9223372036854775808
  conds : p.conds < 9223372036854775808

theorem ProgAt.keeps {w w' : World} {v : Value} {p : Pg} (h : ProgAt w v p) (k : Keeps NoBlock w w') : ProgAt w' v p := by
  obtain ⟨⟨fa, sa, pa, nf, fc, ns, sc, np, pc, fb, fo, sb, so, pb, po, hv, hF, hS, hP, hb⟩, h1, h2⟩ := h
  exact ⟨⟨fa, sa, pa, nf, fc, ns, sc, np, pc, fb, fo, sb, so, pb, po, hv, hF.keeps k, hS.keeps k (fun h => h), hP.keeps k (fun h => h), hb⟩, h1, h2⟩

theorem IntsAt.get {k : IntKind} {w : World} {A : Option Addr} {b off len : Nat} {zs : List Int} (h : IntsAt k w A b off len zs) {j : Nat} {x : Int} (hx : zs[j]? = some x) : w.cell? ⟨b, off + j, none⟩ = some (.int k x) := by
  have hj := (List.getElem?_eq_some_iff.1 hx).1
  rw [h.cell j (by rw [← h.length]; exact hj)]
  rw [List.getD_eq_getElem?_getD, hx]
  rfl
end Go.Proofs.Ytlnoejmckpimnaa
