/-
  The contract of the reference's late.
-/
import Derived.Test.YtigjipjkollohaaFrame
namespace Go.Proofs.Ytigjipjkollohaa
open Go.RowKit

set_option maxRecDepth 20000 in
set_option maxHeartbeats 1000000 in
theorem rlate_any (a b c : Int) (w : World) (ha : (Lit.int .i64 a).wf = true) (hb : (Lit.int .i64 b).wf = true) (hc : (Lit.int .i64 c).wf = true) :
    Calls Try.prog 31 #[.int .i64 a, .int .i64 b, .int .i64 c] w fun e w' => e = .returned (.bool (decide (a + b ≤ c))) ∧ w = w' := by
  have hmin : IntKind.i64.min = -9223372036854775808 := rfl
  have hmax : IntKind.i64.max = 9223372036854775807 := rfl
  simp only [Lit.wf, Bool.and_eq_true, decide_eq_true_eq, hmin, hmax] at ha hb hc
  clear hmin hmax
  by_cases h3 : 0 ≤ b
  · have hw2 : IntKind.i64.wrap (9223372036854775807 - b) = 9223372036854775807 - b := IntWalk.i64_in _ (by omega)
    by_cases h1 : 9223372036854775807 - b < a
    · go_enter Try.func31, Try.ntmps31
      go_wp2
      go_ret
      exact ⟨by rw [show decide (a + b ≤ c) = false from decide_eq_false (by omega)]; rfl, rfl⟩
    · have hw : IntKind.i64.wrap (a + b) = a + b := IntWalk.i64_in _ (by omega)
      go_enter Try.func31, Try.ntmps31
      go_wp2
      go_ret
      exact ⟨rfl, rfl⟩
  · have hw2 : IntKind.i64.wrap (-9223372036854775808 - b) = -9223372036854775808 - b := IntWalk.i64_in _ (by omega)
    by_cases h1 : a < -9223372036854775808 - b
    · go_enter Try.func31, Try.ntmps31
      go_wp2
      go_ret
      exact ⟨by rw [show decide (a + b ≤ c) = true from decide_eq_true (by omega)]; rfl, rfl⟩
    · have hw : IntKind.i64.wrap (a + b) = a + b := IntWalk.i64_in _ (by omega)
      go_enter Try.func31, Try.ntmps31
      go_wp2
      go_ret
      exact ⟨rfl, rfl⟩
end Go.Proofs.Ytigjipjkollohaa
