/- The reference of inst: programs with too many of something (ways 0 to 3). -/
import Derived.Test.YtlnfjjbfdbcgbaaInstQ0
namespace Go.Proofs.Ytlnfjjbfdbcgbaa
open Go.RowKit

set_option maxRecDepth 100000 in
set_option maxHeartbeats 2000000 in
theorem rcap0 (fa sa pa : Option Addr) (nf fc ns sc np pc : Nat) (W M C B R : Int) (w : World)  (b0 : nf = 0) : Calls Try.prog 14 #[.agg #[.slice fa nf fc, .int .i64 W, .int .i64 M, .int .i64 C, .slice sa ns sc, .slice pa np pc, .int .i64 B, .int .i64 R]] w (IntPost w 9) := by
  subst b0
  go_enter Try.func14, Try.ntmps14
  go_wp2_with fail
  go_ret
  exact ⟨rfl, (Keeps.refl _ w).alloc _⟩

set_option maxRecDepth 100000 in
set_option maxHeartbeats 2000000 in
theorem rcap1 (fa sa pa : Option Addr) (nf fc ns sc np pc : Nat) (W M C B R : Int) (w : World) (_a0 : 0 < nf) (b1 : 8 < nf) : Calls Try.prog 14 #[.agg #[.slice fa nf fc, .int .i64 W, .int .i64 M, .int .i64 C, .slice sa ns sc, .slice pa np pc, .int .i64 B, .int .i64 R]] w (IntPost w 9) := by
  have b11 : 8 < (nf : Int) := by omega
  have b00 : ((nf : Int) == 0) = false := by simp; omega
  go_enter Try.func14, Try.ntmps14
  go_wp2_with fail
  go_ret
  exact ⟨rfl, (Keeps.refl _ w).alloc _⟩

set_option maxRecDepth 100000 in
set_option maxHeartbeats 2000000 in
theorem rcap2 (fa sa pa : Option Addr) (nf fc ns sc np pc : Nat) (W M C B R : Int) (w : World) (a0 : 0 < nf) (a1 : nf ≤ 8) (b2 : W < 0) : Calls Try.prog 14 #[.agg #[.slice fa nf fc, .int .i64 W, .int .i64 M, .int .i64 C, .slice sa ns sc, .slice pa np pc, .int .i64 B, .int .i64 R]] w (IntPost w 9) := by
  have b00 : ((nf : Int) == 0) = false := by simp; omega
  go_enter Try.func14, Try.ntmps14
  go_wp2_with fail
  go_ret
  exact ⟨rfl, (Keeps.refl _ w).alloc _⟩

set_option maxRecDepth 100000 in
set_option maxHeartbeats 2000000 in
theorem rcap3 (fa sa pa : Option Addr) (nf fc ns sc np pc : Nat) (W M C B R : Int) (w : World) (a0 : 0 < nf) (a1 : nf ≤ 8) (a2 : 0 ≤ W) (b3 : 64 < W) : Calls Try.prog 14 #[.agg #[.slice fa nf fc, .int .i64 W, .int .i64 M, .int .i64 C, .slice sa ns sc, .slice pa np pc, .int .i64 B, .int .i64 R]] w (IntPost w 9) := by
  have b00 : ((nf : Int) == 0) = false := by simp; omega
  go_enter Try.func14, Try.ntmps14
  go_wp2_with fail
  go_ret
  exact ⟨rfl, (Keeps.refl _ w).alloc _⟩
end Go.Proofs.Ytlnfjjbfdbcgbaa
