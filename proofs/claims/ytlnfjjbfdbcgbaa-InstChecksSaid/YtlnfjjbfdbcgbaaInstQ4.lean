/- The reference of inst: programs with too many of something (ways 11 to 13). -/
import Derived.Test.YtlnfjjbfdbcgbaaInstQ0
namespace Go.Proofs.Ytlnfjjbfdbcgbaa
open Go.RowKit

set_option maxRecDepth 100000 in
set_option maxHeartbeats 2000000 in
theorem rcap11 (fa sa pa : Option Addr) (nf fc ns sc np pc : Nat) (W M C B R : Int) (w : World) (a0 : 0 < nf) (a1 : nf ≤ 8) (a2 : 0 ≤ W) (a3 : W ≤ 64) (a4 : 0 ≤ M) (a5 : M ≤ 4) (a6 : 0 ≤ C) (a7 : C ≤ 4) (a8 : ns ≤ 4) (a9 : np ≤ 4) (a10 : 0 ≤ B) (b11 : 64 < B) : Calls Try.prog 14 #[.agg #[.slice fa nf fc, .int .i64 W, .int .i64 M, .int .i64 C, .slice sa ns sc, .slice pa np pc, .int .i64 B, .int .i64 R]] w (IntPost w 9) := by
  have b00 : ((nf : Int) == 0) = false := by simp; omega
  go_enter Try.func14, Try.ntmps14
  go_wp2_with fail
  go_ret
  exact ⟨rfl, (Keeps.refl _ w).alloc _⟩

set_option maxRecDepth 100000 in
set_option maxHeartbeats 2000000 in
theorem rcap12 (fa sa pa : Option Addr) (nf fc ns sc np pc : Nat) (W M C B R : Int) (w : World) (a0 : 0 < nf) (a1 : nf ≤ 8) (a2 : 0 ≤ W) (a3 : W ≤ 64) (a4 : 0 ≤ M) (a5 : M ≤ 4) (a6 : 0 ≤ C) (a7 : C ≤ 4) (a8 : ns ≤ 4) (a9 : np ≤ 4) (a10 : 0 ≤ B) (a11 : B ≤ 64) (b12 : R < 0) : Calls Try.prog 14 #[.agg #[.slice fa nf fc, .int .i64 W, .int .i64 M, .int .i64 C, .slice sa ns sc, .slice pa np pc, .int .i64 B, .int .i64 R]] w (IntPost w 9) := by
  have b00 : ((nf : Int) == 0) = false := by simp; omega
  go_enter Try.func14, Try.ntmps14
  go_wp2_with fail
  go_ret
  exact ⟨rfl, (Keeps.refl _ w).alloc _⟩

set_option maxRecDepth 100000 in
set_option maxHeartbeats 2000000 in
theorem rcap13 (fa sa pa : Option Addr) (nf fc ns sc np pc : Nat) (W M C B R : Int) (w : World) (a0 : 0 < nf) (a1 : nf ≤ 8) (a2 : 0 ≤ W) (a3 : W ≤ 64) (a4 : 0 ≤ M) (a5 : M ≤ 4) (a6 : 0 ≤ C) (a7 : C ≤ 4) (a8 : ns ≤ 4) (a9 : np ≤ 4) (a10 : 0 ≤ B) (a11 : B ≤ 64) (a12 : 0 ≤ R) (b13 : 7 < R) : Calls Try.prog 14 #[.agg #[.slice fa nf fc, .int .i64 W, .int .i64 M, .int .i64 C, .slice sa ns sc, .slice pa np pc, .int .i64 B, .int .i64 R]] w (IntPost w 9) := by
  have b00 : ((nf : Int) == 0) = false := by simp; omega
  go_enter Try.func14, Try.ntmps14
  go_wp2_with fail
  go_ret
  exact ⟨rfl, (Keeps.refl _ w).alloc _⟩
end Go.Proofs.Ytlnfjjbfdbcgbaa
