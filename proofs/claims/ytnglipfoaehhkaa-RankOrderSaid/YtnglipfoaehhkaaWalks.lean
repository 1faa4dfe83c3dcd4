/-
  The contracts of package rank, of the reference's twins and of awake: each computes a plain function of its arguments and leaves the world as it was.
-/
import Derived.Test.YtnglipfoaehhkaaRows
import Derived.WalkKit
namespace Go.Proofs.Ytnglipfoaehhkaa
open Go.RowKit

theorem ret_int {k : IntKind} {a b : Int} (h : a = b) : Ending.returned (.int k a) = .returned (.int k b) := by rw [h]
theorem ret_bool {a b : Bool} (h : a = b) : Ending.returned (.bool a) = .returned (.bool b) := by rw [h]

/-- A section's rank. -/
def rankOf (s : Int) (b : Bool) : Int := if s = 0 then (if b then 4 else 2) else if s = 1 then (if b then 3 else 1) else 0
/-- May a client be told? -/
def servesB (r : Int) : Bool := r == 2 || r == 3 || r == 4
/-- One not below another. -/
def betterB (a b : Int) : Bool := decide (b ≤ a)

set_option maxHeartbeats 400000 in
theorem of_any (s : Int) (b : Bool) (w : World) :
    Calls Try.prog 6 #[.int .i64 s, .bool b] w fun e w' => e = .returned (.int .i64 (rankOf s b)) ∧ w = w' := by
  by_cases h0 : s = 0
  · subst h0
    cases b <;> (go_enter Try.func6, Try.ntmps6; go_wp2; go_ret; exact ⟨rfl, rfl⟩)
  · have e0 : (s == 0) = false := by simp [h0]
    by_cases h1 : s = 1
    · subst h1
      cases b <;> (go_enter Try.func6, Try.ntmps6; go_wp2; go_ret; exact ⟨rfl, rfl⟩)
    · have e1 : (s == 1) = false := by simp [h1]
      go_enter Try.func6, Try.ntmps6
      go_wp2
      go_ret
      exact ⟨ret_int (by simp [rankOf, h0, h1]), rfl⟩

set_option maxHeartbeats 400000 in
theorem ref_any (s : Int) (b : Bool) (w : World) :
    Calls Try.prog 7 #[.int .i64 s, .bool b] w fun e w' => e = .returned (.int .i64 (rankOf s b)) ∧ w = w' := by
  by_cases h0 : s = 0
  · subst h0
    cases b <;> (go_enter Try.func7, Try.ntmps7; go_wp2; go_ret; exact ⟨rfl, rfl⟩)
  · have e0 : (s == 0) = false := by simp [h0]
    by_cases h1 : s = 1
    · subst h1
      cases b <;> (go_enter Try.func7, Try.ntmps7; go_wp2; go_ret; exact ⟨rfl, rfl⟩)
    · have e1 : (s == 1) = false := by simp [h1]
      go_enter Try.func7, Try.ntmps7
      go_wp2
      go_ret
      exact ⟨ret_int (by simp [rankOf, h0, h1]), rfl⟩

set_option maxHeartbeats 400000 in
theorem better_any (a b : Int) (w : World) :
    Calls Try.prog 8 #[.int .i64 a, .int .i64 b] w fun e w' => e = .returned (.bool (betterB a b)) ∧ w = w' := by
  go_enter Try.func8, Try.ntmps8
  go_wp2
  go_ret
  exact ⟨rfl, rfl⟩

set_option maxHeartbeats 400000 in
theorem serves_any (r : Int) (w : World) :
    Calls Try.prog 9 #[.int .i64 r] w fun e w' => e = .returned (.bool (servesB r)) ∧ w = w' := by
  go_enter Try.func9, Try.ntmps9
  go_wp2
  all_goals (go_ret; exact ⟨ret_bool (by simp_all [servesB]), rfl⟩)

set_option maxHeartbeats 400000 in
theorem refServes_any (r : Int) (w : World) :
    Calls Try.prog 10 #[.int .i64 r] w fun e w' => e = .returned (.bool (servesB r)) ∧ w = w' := by
  go_enter Try.func10, Try.ntmps10
  go_wp2
  all_goals (go_ret; exact ⟨ret_bool (by rw [Bool.eq_iff_iff]; simp_all [servesB]; omega), rfl⟩)

set_option maxHeartbeats 400000 in
theorem awake_any (w : World) : Calls Try.prog 11 #[] w fun e w' => e = .returned (.bool true) ∧ w = w' := by
  go_enter Try.func11, Try.ntmps11
  go_wp2_with (first | (go_at_call 6; refine (of_any _ _ _).mono ?_; rintro e w' ⟨rfl, rfl⟩) | (go_at_call 8; refine (better_any _ _ _).mono ?_; rintro e w' ⟨rfl, rfl⟩) | (go_at_call 9; refine (serves_any _ _).mono ?_; rintro e w' ⟨rfl, rfl⟩))
  go_ret
  exact ⟨rfl, rfl⟩
end Go.Proofs.Ytnglipfoaehhkaa
