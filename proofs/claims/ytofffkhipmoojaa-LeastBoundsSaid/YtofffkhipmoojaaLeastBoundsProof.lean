/- For every input LeastBounds returns true, and each argument reads behind the call as it read before. No condition beyond the given row. -/
import Derived.Test.YtofffkhipmoojaaLeastMore
import Derived.Test.YtofffkhipmoojaaLaw
import Derived.WalkKit
import Derived.ProofKit
import Derived.OpenShut
namespace Go.Proofs.Ytofffkhipmoojaa.leastBounds
open Go.ChangeShapes Go.WideShapes Go.ChangeAt Go.RowKit

set_option linter.unusedVariables false      -- a walk need not use every fact that an integer fits its kind
theorem own : ownKnob Try.prog.godebug = none := by kernel_rfl
theorem laidOut : laidOutB Try.prog = true := by kernel_rfl

set_option maxRecDepth 20000 in
set_option maxHeartbeats 4000000 in
theorem walk0 (a0 : Int) (a1 a2 : Bool) (w : World) (hk : a0 % 8 = 0) :
    Calls Try.prog 4 #[.int .i64 a0, .bool a1, .bool a2] w fun e w' => e = .returned (.bool true) ∧ Below w.heap.size w w' := by
  cases a1 <;> cases a2
  all_goals
    go_enter Try.func4, Try.ntmps4
    go_wp2_with fail
    refine (one_any _).mono ?_
    rintro e w1 ⟨A1, rfl, hH0, hb1⟩
    go_wp2_with fail
    refine (round_any a0 8 _ (by omega) (by omega)).mono ?_
    rintro e w2 ⟨rfl, rfl⟩
    go_wp2_with fail
    first | refine (check_lit 0 A1 _ _ _ _ _ _ _ _ _ (by decide) ((hH0.alloc _).alloc _)).mono ?_ | refine (check_lit 1 A1 _ _ _ _ _ _ _ _ _ (by decide) ((hH0.alloc _).alloc _)).mono ?_
    rintro e w3 ⟨rfl, hb3⟩
    go_wp2_with fail
    refine (awake_any _).mono ?_
    rintro e v ⟨rfl, hv⟩
    go_wp2
    go_ret
    have h2 := ((hb1.alloc hb1.size _).alloc (by have := hb1.size; simp; omega) _).trans (hb3.mono (by have := hb1.size; simp; omega))
    exact ⟨rfl, h2.trans (hv.mono h2.size)⟩

set_option maxRecDepth 20000 in
set_option maxHeartbeats 4000000 in
theorem walk1 (a0 : Int) (a1 a2 : Bool) (w : World) (hk : a0 % 8 = 1) :
    Calls Try.prog 4 #[.int .i64 a0, .bool a1, .bool a2] w fun e w' => e = .returned (.bool true) ∧ Below w.heap.size w w' := by
  cases a1 <;> cases a2
  all_goals
    go_enter Try.func4, Try.ntmps4
    go_wp2_with fail
    refine (one_any _).mono ?_
    rintro e w1 ⟨A1, rfl, hH0, hb1⟩
    go_wp2_with fail
    refine (round_any a0 8 _ (by omega) (by omega)).mono ?_
    rintro e w2 ⟨rfl, rfl⟩
    go_wp2_with fail
    first | refine (check_lit 0 A1 _ _ _ _ _ _ _ _ _ (by decide) ((hH0.alloc _).alloc _)).mono ?_ | refine (check_lit 1 A1 _ _ _ _ _ _ _ _ _ (by decide) ((hH0.alloc _).alloc _)).mono ?_
    rintro e w3 ⟨rfl, hb3⟩
    go_wp2_with fail
    refine (awake_any _).mono ?_
    rintro e v ⟨rfl, hv⟩
    go_wp2
    go_ret
    have h2 := ((hb1.alloc hb1.size _).alloc (by have := hb1.size; simp; omega) _).trans (hb3.mono (by have := hb1.size; simp; omega))
    exact ⟨rfl, h2.trans (hv.mono h2.size)⟩

set_option maxRecDepth 20000 in
set_option maxHeartbeats 4000000 in
theorem walk2 (a0 : Int) (a1 a2 : Bool) (w : World) (hk : a0 % 8 = 2) :
    Calls Try.prog 4 #[.int .i64 a0, .bool a1, .bool a2] w fun e w' => e = .returned (.bool true) ∧ Below w.heap.size w w' := by
  cases a1 <;> cases a2
  all_goals
    go_enter Try.func4, Try.ntmps4
    go_wp2_with fail
    refine (one_any _).mono ?_
    rintro e w1 ⟨A1, rfl, hH0, hb1⟩
    go_wp2_with fail
    refine (round_any a0 8 _ (by omega) (by omega)).mono ?_
    rintro e w2 ⟨rfl, rfl⟩
    go_wp2_with fail
    first | refine (check_lit 0 A1 _ _ _ _ _ _ _ _ _ (by decide) ((hH0.alloc _).alloc _)).mono ?_ | refine (check_lit 1 A1 _ _ _ _ _ _ _ _ _ (by decide) ((hH0.alloc _).alloc _)).mono ?_
    rintro e w3 ⟨rfl, hb3⟩
    go_wp2_with fail
    refine (awake_any _).mono ?_
    rintro e v ⟨rfl, hv⟩
    go_wp2
    go_ret
    have h2 := ((hb1.alloc hb1.size _).alloc (by have := hb1.size; simp; omega) _).trans (hb3.mono (by have := hb1.size; simp; omega))
    exact ⟨rfl, h2.trans (hv.mono h2.size)⟩

set_option maxRecDepth 20000 in
set_option maxHeartbeats 4000000 in
theorem walk3 (a0 : Int) (a1 a2 : Bool) (w : World) (hk : a0 % 8 = 3) :
    Calls Try.prog 4 #[.int .i64 a0, .bool a1, .bool a2] w fun e w' => e = .returned (.bool true) ∧ Below w.heap.size w w' := by
  cases a1 <;> cases a2
  all_goals
    go_enter Try.func4, Try.ntmps4
    go_wp2_with fail
    refine (one_any _).mono ?_
    rintro e w1 ⟨A1, rfl, hH0, hb1⟩
    go_wp2_with fail
    refine (round_any a0 8 _ (by omega) (by omega)).mono ?_
    rintro e w2 ⟨rfl, rfl⟩
    go_wp2_with fail
    first | refine (check_lit 0 A1 _ _ _ _ _ _ _ _ _ (by decide) ((hH0.alloc _).alloc _)).mono ?_ | refine (check_lit 1 A1 _ _ _ _ _ _ _ _ _ (by decide) ((hH0.alloc _).alloc _)).mono ?_
    rintro e w3 ⟨rfl, hb3⟩
    go_wp2_with fail
    refine (awake_any _).mono ?_
    rintro e v ⟨rfl, hv⟩
    go_wp2
    go_ret
    have h2 := ((hb1.alloc hb1.size _).alloc (by have := hb1.size; simp; omega) _).trans (hb3.mono (by have := hb1.size; simp; omega))
    exact ⟨rfl, h2.trans (hv.mono h2.size)⟩

set_option maxRecDepth 20000 in
set_option maxHeartbeats 4000000 in
theorem walk4 (a0 : Int) (a1 a2 : Bool) (w : World) (hk : a0 % 8 = 4) :
    Calls Try.prog 4 #[.int .i64 a0, .bool a1, .bool a2] w fun e w' => e = .returned (.bool true) ∧ Below w.heap.size w w' := by
  cases a1 <;> cases a2
  all_goals
    go_enter Try.func4, Try.ntmps4
    go_wp2_with fail
    refine (one_any _).mono ?_
    rintro e w1 ⟨A1, rfl, hH0, hb1⟩
    go_wp2_with fail
    refine (round_any a0 8 _ (by omega) (by omega)).mono ?_
    rintro e w2 ⟨rfl, rfl⟩
    go_wp2_with fail
    first | refine (check_lit 0 A1 _ _ _ _ _ _ _ _ _ (by decide) ((hH0.alloc _).alloc _)).mono ?_ | refine (check_lit 1 A1 _ _ _ _ _ _ _ _ _ (by decide) ((hH0.alloc _).alloc _)).mono ?_
    rintro e w3 ⟨rfl, hb3⟩
    go_wp2_with fail
    refine (awake_any _).mono ?_
    rintro e v ⟨rfl, hv⟩
    go_wp2
    go_ret
    have h2 := ((hb1.alloc hb1.size _).alloc (by have := hb1.size; simp; omega) _).trans (hb3.mono (by have := hb1.size; simp; omega))
    exact ⟨rfl, h2.trans (hv.mono h2.size)⟩

set_option maxRecDepth 20000 in
set_option maxHeartbeats 4000000 in
theorem walk5 (a0 : Int) (a1 a2 : Bool) (w : World) (hk : a0 % 8 = 5) :
    Calls Try.prog 4 #[.int .i64 a0, .bool a1, .bool a2] w fun e w' => e = .returned (.bool true) ∧ Below w.heap.size w w' := by
  cases a1 <;> cases a2
  all_goals
    go_enter Try.func4, Try.ntmps4
    go_wp2_with fail
    refine (one_any _).mono ?_
    rintro e w1 ⟨A1, rfl, hH0, hb1⟩
    go_wp2_with fail
    refine (round_any a0 8 _ (by omega) (by omega)).mono ?_
    rintro e w2 ⟨rfl, rfl⟩
    go_wp2_with fail
    first | refine (check_lit 0 A1 _ _ _ _ _ _ _ _ _ (by decide) ((hH0.alloc _).alloc _)).mono ?_ | refine (check_lit 1 A1 _ _ _ _ _ _ _ _ _ (by decide) ((hH0.alloc _).alloc _)).mono ?_
    rintro e w3 ⟨rfl, hb3⟩
    go_wp2_with fail
    refine (awake_any _).mono ?_
    rintro e v ⟨rfl, hv⟩
    go_wp2
    go_ret
    have h2 := ((hb1.alloc hb1.size _).alloc (by have := hb1.size; simp; omega) _).trans (hb3.mono (by have := hb1.size; simp; omega))
    exact ⟨rfl, h2.trans (hv.mono h2.size)⟩

set_option maxRecDepth 20000 in
set_option maxHeartbeats 4000000 in
theorem walk6 (a0 : Int) (a1 a2 : Bool) (w : World) (hk : a0 % 8 = 6) :
    Calls Try.prog 4 #[.int .i64 a0, .bool a1, .bool a2] w fun e w' => e = .returned (.bool true) ∧ Below w.heap.size w w' := by
  cases a1 <;> cases a2
  all_goals
    go_enter Try.func4, Try.ntmps4
    go_wp2_with fail
    refine (one_any _).mono ?_
    rintro e w1 ⟨A1, rfl, hH0, hb1⟩
    go_wp2_with fail
    refine (round_any a0 8 _ (by omega) (by omega)).mono ?_
    rintro e w2 ⟨rfl, rfl⟩
    go_wp2_with fail
    first | refine (check_lit 0 A1 _ _ _ _ _ _ _ _ _ (by decide) ((hH0.alloc _).alloc _)).mono ?_ | refine (check_lit 1 A1 _ _ _ _ _ _ _ _ _ (by decide) ((hH0.alloc _).alloc _)).mono ?_
    rintro e w3 ⟨rfl, hb3⟩
    go_wp2_with fail
    refine (awake_any _).mono ?_
    rintro e v ⟨rfl, hv⟩
    go_wp2
    go_ret
    have h2 := ((hb1.alloc hb1.size _).alloc (by have := hb1.size; simp; omega) _).trans (hb3.mono (by have := hb1.size; simp; omega))
    exact ⟨rfl, h2.trans (hv.mono h2.size)⟩

set_option maxRecDepth 20000 in
set_option maxHeartbeats 4000000 in
theorem walk7 (a0 : Int) (a1 a2 : Bool) (w : World) (hk : a0 % 8 = 7) :
    Calls Try.prog 4 #[.int .i64 a0, .bool a1, .bool a2] w fun e w' => e = .returned (.bool true) ∧ Below w.heap.size w w' := by
  cases a1 <;> cases a2
  all_goals
    go_enter Try.func4, Try.ntmps4
    go_wp2_with fail
    refine (one_any _).mono ?_
    rintro e w1 ⟨A1, rfl, hH0, hb1⟩
    go_wp2_with fail
    refine (round_any a0 8 _ (by omega) (by omega)).mono ?_
    rintro e w2 ⟨rfl, rfl⟩
    go_wp2_with fail
    first | refine (check_lit 0 A1 _ _ _ _ _ _ _ _ _ (by decide) ((hH0.alloc _).alloc _)).mono ?_ | refine (check_lit 1 A1 _ _ _ _ _ _ _ _ _ (by decide) ((hH0.alloc _).alloc _)).mono ?_
    rintro e w3 ⟨rfl, hb3⟩
    go_wp2_with fail
    refine (awake_any _).mono ?_
    rintro e v ⟨rfl, hv⟩
    go_wp2
    go_ret
    have h2 := ((hb1.alloc hb1.size _).alloc (by have := hb1.size; simp; omega) _).trans (hb3.mono (by have := hb1.size; simp; omega))
    exact ⟨rfl, h2.trans (hv.mono h2.size)⟩

theorem walk (a0 : Int) (a1 a2 : Bool) (w0 : (Lit.int .i64 a0).wf = true) (w : World) :
    Calls Try.prog 4 #[.int .i64 a0, .bool a1, .bool a2] w fun e w' => e = .returned (.bool true) ∧ Below w.heap.size w w' := by
  have h8 : a0 % 8 = 0 ∨ a0 % 8 = 1 ∨ a0 % 8 = 2 ∨ a0 % 8 = 3 ∨ a0 % 8 = 4 ∨ a0 % 8 = 5 ∨ a0 % 8 = 6 ∨ a0 % 8 = 7 := by omega
  rcases h8 with hk | hk | hk | hk | hk | hk | hk | hk
  · exact walk0 a0 a1 a2 w hk
  · exact walk1 a0 a1 a2 w hk
  · exact walk2 a0 a1 a2 w hk
  · exact walk3 a0 a1 a2 w hk
  · exact walk4 a0 a1 a2 w hk
  · exact walk5 a0 a1 a2 w hk
  · exact walk6 a0 a1 a2 w hk
  · exact walk7 a0 a1 a2 w hk

set_option maxRecDepth 100000 in
theorem lifted (os : Os) (started : os.Started) (H : Type) (enc : TypeId × Value → H) :
    ReturnsInHanded {} Try.checked os 4 .any (Rows.leastBoundsSpec.pre6 enc Try.prog Try.f4 Rows.leastBoundsRow.domain false) (Rows.leastBoundsSpec.post enc Try.prog Try.f4 false true false false) := by
  refine returnsInHanded_of_change (C := Try.checked) own started (by kernel_rfl) Try.func4
    (ChangeSpec.witness6 (enc := enc) (C := Try.checked) false ⟨#[], #[.int .i64 0, .bool false, .bool false], []⟩ 8 (by kernel_rfl) (by kernel_rfl) (by kernel_rfl) (by kernel_rfl)) ?_
  intro W base args ds gs before hval0 hW _ _
  have hval : ∀ (j : Nat) t v, Try.f4.params[j]? = some t → args[j]? = some v → Value.okWide Try.prog W .any base t v := hval0
  have hW' := hW
  obtain ⟨p, q, hA0, hV, rfl, _, _⟩ := hW
  have hA : DataW.TrodAll enc Try.prog W 0 (fun _ => true) true Try.f4.params.toList args.toList ds p := hA0
  rw [Try.params4] at hA hval
  obtain ⟨v0, vs0, d0, ds0, p0, q0, hargs, rfl, rfl, h0, r0⟩ := trodAll_cons hA
  obtain ⟨v1, vs1, d1, ds1, p1, q1, rfl, rfl, rfl, h1, r1⟩ := trodAll_cons r0
  obtain ⟨v2, vs2, d2, ds2, p2, q2, rfl, rfl, rfl, h2, r2⟩ := trodAll_cons r1
  obtain ⟨rfl, rfl, rfl⟩ := trodAll_nil r2
  obtain rfl : args = #[v0, v1, v2] := by cases args; simp_all
  obtain ⟨rfl, rfl⟩ := trodVars_none hV
  obtain ⟨a0, rfl, rfl, rfl, w0⟩ := open_int Try.underlying3 (hval 0 3 v0 rfl rfl) h0
  obtain ⟨a1, rfl, rfl, rfl⟩ := open_bool Try.underlying4 (hval 1 4 v1 rfl rfl) h1
  obtain ⟨a2, rfl, rfl, rfl⟩ := open_bool Try.underlying4 (hval 2 4 v2 rfl rfl) h2
  clear hA0 hval0
  refine (walk a0 a1 a2 w0 W).mono fun e W1 ⟨he, hg⟩ => ?_
  subst he
  exact ⟨_, rfl, law_end rfl rfl Try.underlying4 laidOut (readable_all (by rw [Try.params4]; kernel_rfl)) hW' rfl hg⟩

theorem proved : Rows.LeastBoundsSaid :=
  OpenClaim.holds_of_wide 4 Try.f4 rfl rfl rfl rfl rfl rfl rfl ⟨rfl, rfl, rfl, rfl, rfl⟩ rfl rfl rfl rfl rfl (by kernel_rfl) Try.func4 (by kernel_rfl)
    (of_decide_eq_true (by kernel_rfl)) (by unfold Func.isWrapper; first | (rw [if_pos (by decide +kernel)]; kernel_rfl) | (rw [if_neg (by decide +kernel)]; exact ⟨rfl, rfl⟩))
    (fun os started H enc _ => lifted os started H enc)
#print axioms proved
end Go.Proofs.Ytofffkhipmoojaa.leastBounds
