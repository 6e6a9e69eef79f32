/- The reference of inst: programs with too many of something (ways 4 to 7). -/
import Derived.Test.YtlnfjjbfdbcgbaaInstQ0
namespace Go.Proofs.Ytlnfjjbfdbcgbaa
open Go.RowKit

set_option maxRecDepth 100000 in
set_option maxHeartbeats 2000000 in
theorem rcap4 (fa sa pa : Option Addr) (nf fc ns sc np pc : Nat) (W M C B R : Int) (w : World) (a0 : 0 < nf) (a1 : nf ≤ 8) (a2 : 0 ≤ W) (a3 : W ≤ 64) (b4 : M < 0) : Calls Try.prog 14 #[.agg #[.slice fa nf fc, .int .i64 W, .int .i64 M, .int .i64 C, .slice sa ns sc, .slice pa np pc, .int .i64 B, .int .i64 R]] w (IntPost w 9) := by
  have b00 : ((nf : Int) == 0) = false := by simp; omega
  go_enter Try.func14, Try.ntmps14
  go_wp2_with fail
  go_ret
  exact ⟨rfl, (Keeps.refl _ w).alloc _⟩

set_option maxRecDepth 100000 in
set_option maxHeartbeats 2000000 in
theorem rcap5 (fa sa pa : Option Addr) (nf fc ns sc np pc : Nat) (W M C B R : Int) (w : World) (a0 : 0 < nf) (a1 : nf ≤ 8) (a2 : 0 ≤ W) (a3 : W ≤ 64) (a4 : 0 ≤ M) (b5 : 4 < M) : Calls Try.prog 14 #[.agg #[.slice fa nf fc, .int .i64 W, .int .i64 M, .int .i64 C, .slice sa ns sc, .slice pa np pc, .int .i64 B, .int .i64 R]] w (IntPost w 9) := by
  have b00 : ((nf : Int) == 0) = false := by simp; omega
  go_enter Try.func14, Try.ntmps14
  go_wp2_with fail
  go_ret
  exact ⟨rfl, (Keeps.refl _ w).alloc _⟩

set_option maxRecDepth 100000 in
set_option maxHeartbeats 2000000 in
theorem rcap6 (fa sa pa : Option Addr) (nf fc ns sc np pc : Nat) (W M C B R : Int) (w : World) (a0 : 0 < nf) (a1 : nf ≤ 8) (a2 : 0 ≤ W) (a3 : W ≤ 64) (a4 : 0 ≤ M) (a5 : M ≤ 4) (b6 : C < 0) : Calls Try.prog 14 #[.agg #[.slice fa nf fc, .int .i64 W, .int .i64 M, .int .i64 C, .slice sa ns sc, .slice pa np pc, .int .i64 B, .int .i64 R]] w (IntPost w 9) := by
  have b00 : ((nf : Int) == 0) = false := by simp; omega
  go_enter Try.func14, Try.ntmps14
  go_wp2_with fail
  go_ret
  exact ⟨rfl, (Keeps.refl _ w).alloc _⟩

set_option maxRecDepth 100000 in
set_option maxHeartbeats 2000000 in
theorem rcap7 (fa sa pa : Option Addr) (nf fc ns sc np pc : Nat) (W M C B R : Int) (w : World) (a0 : 0 < nf) (a1 : nf ≤ 8) (a2 : 0 ≤ W) (a3 : W ≤ 64) (a4 : 0 ≤ M) (a5 : M ≤ 4) (a6 : 0 ≤ C) (b7 : 4 < C) : Calls Try.prog 14 #[.agg #[.slice fa nf fc, .int .i64 W, .int .i64 M, .int .i64 C, .slice sa ns sc, .slice pa np pc, .int .i64 B, .int .i64 R]] w (IntPost w 9) := by
  have b00 : ((nf : Int) == 0) = false := by simp; omega
  go_enter Try.func14, Try.ntmps14
  go_wp2_with fail
  go_ret
  exact ⟨rfl, (Keeps.refl _ w).alloc _⟩
end Go.Proofs.Ytlnfjjbfdbcgbaa
