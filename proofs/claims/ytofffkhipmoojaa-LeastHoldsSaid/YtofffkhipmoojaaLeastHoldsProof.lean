/- For every input LeastHolds returns true, and each argument reads behind the call as it read before. No condition beyond the given row. -/
import Derived.Test.YtofffkhipmoojaaLeastMore
import Derived.Test.YtofffkhipmoojaaLaw
import Derived.WalkKit
import Derived.ProofKit
import Derived.OpenShut
namespace Go.Proofs.Ytofffkhipmoojaa.leastHolds
open Go.ChangeShapes Go.WideShapes Go.ChangeAt Go.RowKit

set_option linter.unusedVariables false      -- a walk need not use every fact that an integer fits its kind
theorem own : ownKnob Try.prog.godebug = none := by kernel_rfl
theorem laidOut : laidOutB Try.prog = true := by kernel_rfl

set_option maxRecDepth 20000 in
set_option maxHeartbeats 1000000 in
theorem walk (a0 a1 a2 a3 : Int) (w0 : (Lit.int .i64 a0).wf = true) (w1 : (Lit.int .i64 a1).wf = true) (w2 : (Lit.int .i64 a2).wf = true) (w3 : (Lit.int .i64 a3).wf = true) (w : World) :
    Calls Try.prog 6 #[.int .i64 a0, .int .i64 a1, .int .i64 a2, .int .i64 a3] w fun e w' => e = .returned (.bool true) ∧ Below w.heap.size w w' := by
  have e1 : errOf true = 0 := rfl
  have e2 : errOf false = 1 := rfl
  cases hck : checkB [([0], 1)] a0 100 100 a3 a2 a1 4 6
  · go_enter Try.func6, Try.ntmps6
    go_wp2_with fail
    refine (one_any _).mono ?_
    rintro e w1 ⟨A1, rfl, hH0, hb1⟩
    have hH1 := hH0.alloc (.cells #[.slice A1 1 1, .int .i64 a0, .int .i64 100, .int .i64 100, .int .i64 a3, .int .i64 a2, .int .i64 a1, .int .i64 4, .int .i64 6] 24)
    have hB1 := Below.refl (w1.heap.size + 1) (w1.alloc (.cells #[.slice A1 1 1, .int .i64 a0, .int .i64 100, .int .i64 100, .int .i64 a3, .int .i64 a2, .int .i64 a1, .int .i64 4, .int .i64 6] 24))
    clear hH0
    go_wp2_with fail
    refine (check_any A1 1 1 [([0], 1)] a0 100 100 a3 a2 a1 4 6 _ rfl (by omega) hH1 one_size).mono ?_
    rintro e u2 ⟨rfl, hc2⟩
    have hB2 : Below (w1.heap.size + 1) (w1.alloc (.cells #[.slice A1 1 1, .int .i64 a0, .int .i64 100, .int .i64 100, .int .i64 a3, .int .i64 a2, .int .i64 a1, .int .i64 4, .int .i64 6] 24)) u2 := below_more hB1 hc2
    have hbox2 := box_kept hB2
    have hH2 := hH1.below hc2
    clear hH1 hc2 hB1
    go_wp2_with fail
    refine (sends_any A1 1 1 [([0], 1)] a0 100 100 a3 a2 a1 4 6 _ rfl (by omega) hH2 one_size).mono ?_
    rintro e u3 ⟨rfl, hc3⟩
    have hB3 : Below (w1.heap.size + 1) (w1.alloc (.cells #[.slice A1 1 1, .int .i64 a0, .int .i64 100, .int .i64 100, .int .i64 a3, .int .i64 a2, .int .i64 a1, .int .i64 4, .int .i64 6] 24)) u3 := below_more hB2 hc3
    have hbox3 := box_kept hB3
    have hH3 := hH2.below hc3
    clear hH2 hc3 hB2 hbox2
    go_wp2_with fail
    refine (wait_any A1 1 1 [([0], 1)] a0 100 100 a3 a2 a1 4 6 _ rfl (by omega) hH3 one_size).mono ?_
    rintro e u4 ⟨rfl, hc4⟩
    have hB4 : Below (w1.heap.size + 1) (w1.alloc (.cells #[.slice A1 1 1, .int .i64 a0, .int .i64 100, .int .i64 100, .int .i64 a3, .int .i64 a2, .int .i64 a1, .int .i64 4, .int .i64 6] 24)) u4 := below_more hB3 hc4
    have hbox4 := box_kept hB4
    have hH4 := hH3.below hc4
    clear hH3 hc4 hB3 hbox3
    go_wp2_with fail
    refine (awake_any _).mono ?_
    rintro e v ⟨rfl, hv⟩
    go_wp2
    go_ret
    exact ⟨rfl, (below_box hb1 hB4).trans (hv.mono (below_box hb1 hB4).size)⟩
  · have hr : 1 ≤ a1 ∧ a1 ≤ 24 ∧ 1 ≤ a2 := by
      simp [checkB, timesB, withinB] at hck
      omega
    obtain ⟨r1, r2, r3⟩ := hr
    go_enter Try.func6, Try.ntmps6
    go_wp2_with fail
    refine (one_any _).mono ?_
    rintro e w1 ⟨A1, rfl, hH0, hb1⟩
    have hH1 := hH0.alloc (.cells #[.slice A1 1 1, .int .i64 a0, .int .i64 100, .int .i64 100, .int .i64 a3, .int .i64 a2, .int .i64 a1, .int .i64 4, .int .i64 6] 24)
    have hB1 := Below.refl (w1.heap.size + 1) (w1.alloc (.cells #[.slice A1 1 1, .int .i64 a0, .int .i64 100, .int .i64 100, .int .i64 a3, .int .i64 a2, .int .i64 a1, .int .i64 4, .int .i64 6] 24))
    clear hH0
    go_wp2_with fail
    refine (check_any A1 1 1 [([0], 1)] a0 100 100 a3 a2 a1 4 6 _ rfl (by omega) hH1 one_size).mono ?_
    rintro e u2 ⟨rfl, hc2⟩
    have hB2 : Below (w1.heap.size + 1) (w1.alloc (.cells #[.slice A1 1 1, .int .i64 a0, .int .i64 100, .int .i64 100, .int .i64 a3, .int .i64 a2, .int .i64 a1, .int .i64 4, .int .i64 6] 24)) u2 := below_more hB1 hc2
    have hbox2 := box_kept hB2
    have hH2 := hH1.below hc2
    clear hH1 hc2 hB1
    go_wp2_with fail
    refine (sends_any A1 1 1 [([0], 1)] a0 100 100 a3 a2 a1 4 6 _ rfl (by omega) hH2 one_size).mono ?_
    rintro e u3 ⟨rfl, hc3⟩
    have hB3 : Below (w1.heap.size + 1) (w1.alloc (.cells #[.slice A1 1 1, .int .i64 a0, .int .i64 100, .int .i64 100, .int .i64 a3, .int .i64 a2, .int .i64 a1, .int .i64 4, .int .i64 6] 24)) u3 := below_more hB2 hc3
    have hbox3 := box_kept hB3
    have hH3 := hH2.below hc3
    clear hH2 hc3 hB2 hbox2
    go_wp2_with fail
    refine (sends_any A1 1 1 [([0], 1)] a0 100 100 a3 a2 a1 4 6 _ rfl (by omega) hH3 one_size).mono ?_
    rintro e u4 ⟨rfl, hc4⟩
    have hB4 : Below (w1.heap.size + 1) (w1.alloc (.cells #[.slice A1 1 1, .int .i64 a0, .int .i64 100, .int .i64 100, .int .i64 a3, .int .i64 a2, .int .i64 a1, .int .i64 4, .int .i64 6] 24)) u4 := below_more hB3 hc4
    have hbox4 := box_kept hB4
    have hH4 := hH3.below hc4
    clear hH3 hc4 hB3 hbox3
    go_wp2_with fail
    refine (sends_any A1 1 1 [([0], 1)] a0 100 100 a3 a2 a1 4 6 _ rfl (by omega) hH4 one_size).mono ?_
    rintro e u5 ⟨rfl, hc5⟩
    have hB5 : Below (w1.heap.size + 1) (w1.alloc (.cells #[.slice A1 1 1, .int .i64 a0, .int .i64 100, .int .i64 100, .int .i64 a3, .int .i64 a2, .int .i64 a1, .int .i64 4, .int .i64 6] 24)) u5 := below_more hB4 hc5
    have hbox5 := box_kept hB5
    have hH5 := hH4.below hc5
    clear hH4 hc5 hB4 hbox4
    go_wp2_with fail
    refine (wait_any A1 1 1 [([0], 1)] a0 100 100 a3 a2 a1 4 6 _ rfl (by omega) hH5 one_size).mono ?_
    rintro e u6 ⟨rfl, hc6⟩
    have hB6 : Below (w1.heap.size + 1) (w1.alloc (.cells #[.slice A1 1 1, .int .i64 a0, .int .i64 100, .int .i64 100, .int .i64 a3, .int .i64 a2, .int .i64 a1, .int .i64 4, .int .i64 6] 24)) u6 := below_more hB5 hc6
    have hbox6 := box_kept hB6
    have hH6 := hH5.below hc6
    clear hH5 hc6 hB5 hbox5
    go_wp2_with fail
    refine (wait_any A1 1 1 [([0], 1)] a0 100 100 a3 a2 a1 4 6 _ rfl (by omega) hH6 one_size).mono ?_
    rintro e u7 ⟨rfl, hc7⟩
    have hB7 : Below (w1.heap.size + 1) (w1.alloc (.cells #[.slice A1 1 1, .int .i64 a0, .int .i64 100, .int .i64 100, .int .i64 a3, .int .i64 a2, .int .i64 a1, .int .i64 4, .int .i64 6] 24)) u7 := below_more hB6 hc7
    have hbox7 := box_kept hB7
    have hH7 := hH6.below hc7
    clear hH6 hc7 hB6 hbox6
    go_wp2_with fail
    refine (awake_any _).mono ?_
    rintro e v ⟨rfl, hv⟩
    go_wp2
    go_ret
    exact ⟨rfl, (below_box hb1 hB7).trans (hv.mono (below_box hb1 hB7).size)⟩

set_option maxRecDepth 100000 in
theorem lifted (os : Os) (started : os.Started) (H : Type) (enc : TypeId × Value → H) :
    ReturnsInHanded {} Try.checked os 6 .any (Rows.leastHoldsSpec.pre6 enc Try.prog Try.f6 Rows.leastHoldsRow.domain false) (Rows.leastHoldsSpec.post enc Try.prog Try.f6 false true false false) := by
  refine returnsInHanded_of_change (C := Try.checked) own started (by kernel_rfl) Try.func6
    (ChangeSpec.witness6 (enc := enc) (C := Try.checked) false ⟨#[], #[.int .i64 0, .int .i64 0, .int .i64 0, .int .i64 0], []⟩ 8 (by kernel_rfl) (by kernel_rfl) (by kernel_rfl) (by kernel_rfl)) ?_
  intro W base args ds gs before hval0 hW _ _
  have hval : ∀ (j : Nat) t v, Try.f6.params[j]? = some t → args[j]? = some v → Value.okWide Try.prog W .any base t v := hval0
  have hW' := hW
  obtain ⟨p, q, hA0, hV, rfl, _, _⟩ := hW
  have hA : DataW.TrodAll enc Try.prog W 0 (fun _ => true) true Try.f6.params.toList args.toList ds p := hA0
  rw [Try.params6] at hA hval
  obtain ⟨v0, vs0, d0, ds0, p0, q0, hargs, rfl, rfl, h0, r0⟩ := trodAll_cons hA
  obtain ⟨v1, vs1, d1, ds1, p1, q1, rfl, rfl, rfl, h1, r1⟩ := trodAll_cons r0
  obtain ⟨v2, vs2, d2, ds2, p2, q2, rfl, rfl, rfl, h2, r2⟩ := trodAll_cons r1
  obtain ⟨v3, vs3, d3, ds3, p3, q3, rfl, rfl, rfl, h3, r3⟩ := trodAll_cons r2
  obtain ⟨rfl, rfl, rfl⟩ := trodAll_nil r3
  obtain rfl : args = #[v0, v1, v2, v3] := by cases args; simp_all
  obtain ⟨rfl, rfl⟩ := trodVars_none hV
  obtain ⟨a0, rfl, rfl, rfl, w0⟩ := open_int Try.underlying3 (hval 0 3 v0 rfl rfl) h0
  obtain ⟨a1, rfl, rfl, rfl, w1⟩ := open_int Try.underlying3 (hval 1 3 v1 rfl rfl) h1
  obtain ⟨a2, rfl, rfl, rfl, w2⟩ := open_int Try.underlying3 (hval 2 3 v2 rfl rfl) h2
  obtain ⟨a3, rfl, rfl, rfl, w3⟩ := open_int Try.underlying3 (hval 3 3 v3 rfl rfl) h3
  clear hA0 hval0
  refine (walk a0 a1 a2 a3 w0 w1 w2 w3 W).mono fun e W1 ⟨he, hg⟩ => ?_
  subst he
  exact ⟨_, rfl, law_end rfl rfl Try.underlying4 laidOut (readable_all (by rw [Try.params6]; kernel_rfl)) hW' rfl hg⟩

theorem proved : Rows.LeastHoldsSaid :=
  OpenClaim.holds_of_wide 6 Try.f6 rfl rfl rfl rfl rfl rfl rfl ⟨rfl, rfl, rfl, rfl, rfl⟩ rfl rfl rfl rfl rfl (by kernel_rfl) Try.func6 (by kernel_rfl)
    (of_decide_eq_true (by kernel_rfl)) (by unfold Func.isWrapper; first | (rw [if_pos (by decide +kernel)]; kernel_rfl) | (rw [if_neg (by decide +kernel)]; exact ⟨rfl, rfl⟩))
    (fun os started H enc _ => lifted os started H enc)
#print axioms proved
end Go.Proofs.Ytofffkhipmoojaa.leastHolds
