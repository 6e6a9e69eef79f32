/- Package inst: the form of an operation. -/
import Derived.Test.YtlnfjjbfdbcgbaaInst
namespace Go.Proofs.Ytlnfjjbfdbcgbaa
open Go.RowKit

set_option maxRecDepth 100000 in
set_option maxHeartbeats 4000000 in
theorem of_calls (fa sa pa : Option Addr) (nf fc ns sc np pc : Nat) (W M C B R op : Int) (w : World) (h1 : 1 ≤ op) (h2 : op ≤ 38) :
    Calls Try.prog 26 #[.agg #[.slice fa nf fc, .int .i64 W, .int .i64 M, .int .i64 C, .slice sa ns sc, .slice pa np pc, .int .i64 B, .int .i64 R], .int .i64 op] w (OfPost w (ofs nf M C ns np op)) := by
  have h : op = 1 ∨ op = 2 ∨ op = 3 ∨ op = 4 ∨ op = 5 ∨ op = 6 ∨ op = 7 ∨ op = 8 ∨ op = 9 ∨ op = 10 ∨ op = 11 ∨ op = 12 ∨ op = 13 ∨ op = 14 ∨ op = 15 ∨ op = 16 ∨ op = 17 ∨ op = 18 ∨ op = 19 ∨ op = 20 ∨ op = 21 ∨ op = 22 ∨ op = 23 ∨ op = 24 ∨ op = 25 ∨ op = 26 ∨ op = 27 ∨ op = 28 ∨ op = 29 ∨ op = 30 ∨ op = 31 ∨ op = 32 ∨ op = 33 ∨ op = 34 ∨ op = 35 ∨ op = 36 ∨ op = 37 ∨ op = 38 := by omega
  clear h1 h2
  rcases h with rfl | rfl | rfl | rfl | rfl | rfl | rfl | rfl | rfl | rfl | rfl | rfl | rfl | rfl | rfl | rfl | rfl | rfl | rfl | rfl | rfl | rfl | rfl | rfl | rfl | rfl | rfl | rfl | rfl | rfl | rfl | rfl | rfl | rfl | rfl | rfl | rfl | rfl
  all_goals
    go_enter Try.func26, Try.ntmps26
    go_wp2
    exact bodyPost_ret (v := formV (ofs nf M C ns np _)) (by simp [results, Try.results26, go_sem, formV, ofs]) rfl ⟨rfl, ((Keeps.refl _ w).alloc _).alloc _⟩
end Go.Proofs.Ytlnfjjbfdbcgbaa
