/- For every input ClientOnce returns true, and each argument reads behind the call as it read before. No condition beyond the given row. -/
import Derived.Test.YtigjipjkollohaaClientOnce
import Derived.Test.YtigjipjkollohaaOpenOne
import Derived.WalkKit
import Derived.ProofKit
import Derived.OpenShut
namespace Go.Proofs.Ytigjipjkollohaa.clientOnce
open Go.ChangeShapes Go.WideShapes Go.ChangeAt Go.RowKit

theorem own : ownKnob Try.prog.godebug = none := by kernel_rfl
theorem laidOut : laidOutB Try.prog = true := by kernel_rfl
theorem cells_int : Try.prog.cellsOf 3 = 1 := by kernel_rfl

set_option maxRecDepth 100000 in
theorem lifted (os : Os) (started : os.Started) (H : Type) (enc : TypeId × Value → H) :
    ReturnsInHanded {} Try.checked os 4 .any (Rows.clientOnceSpec.pre6 enc Try.prog Try.f4 Rows.clientOnceRow.domain false) (Rows.clientOnceSpec.post enc Try.prog Try.f4 false true false false) := by
  refine returnsInHanded_of_change (C := Try.checked) own started (by kernel_rfl) Try.func4
    (ChangeSpec.witness6 (enc := enc) (C := Try.checked) false ⟨#[], #[.slice none 0 0, .slice none 0 0, .int .i64 0], []⟩ 8 (by kernel_rfl) (by kernel_rfl) (by kernel_rfl) (by kernel_rfl)) ?_
  intro W base args ds gs before hval0 hW _ _
  have hval : ∀ (j : Nat) t v, Try.f4.params[j]? = some t → args[j]? = some v → Value.okWide Try.prog W .any base t v := hval0
  have hW' := hW
  obtain ⟨p, q, hA0, hV, rfl, _, _⟩ := hW
  have hA : DataW.TrodAll enc Try.prog W 0 (fun _ => true) true Try.f4.params.toList args.toList ds p := hA0
  rw [Try.params4] at hA hval
  obtain ⟨v0, vs0, d0, ds0, p0, q0, hargs, rfl, rfl, h0, r0⟩ := trodAll_cons hA
  obtain ⟨v1, vs1, d1, ds1, p1, q1, rfl, rfl, rfl, h1, r1⟩ := trodAll_cons r0
  obtain ⟨v2, vs2, d2, ds2, p2, q2, rfl, rfl, rfl, h2, r2⟩ := trodAll_cons r1
  obtain ⟨rfl, rfl, rfl⟩ := trodAll_nil r2
  obtain rfl : args = #[v0, v1, v2] := by cases args; simp_all
  obtain ⟨rfl, rfl⟩ := trodVars_none hV
  obtain ⟨b0, l0, m0, rfl⟩ := okWide_slice Try.underlying53 (hval 0 53 v0 rfl rfl)
  obtain ⟨f0, t0⟩ := h0
  obtain ⟨A0, n0, c0, x0, e0, hl0, hc0, hn0, hr0, hw0⟩ := open_intlist Try.underlying53 Try.underlying3 cells_int (by simpa [Value.cells] using t0)
  injection e0 with g00 g10 g20
  subst g00 g10 g20
  obtain ⟨b1, l1, m1, rfl⟩ := okWide_slice Try.underlying53 (hval 1 53 v1 rfl rfl)
  obtain ⟨f1, t1⟩ := h1
  obtain ⟨A1, n1, c1, x1, e1, hl1, hc1, hn1, hr1, hw1⟩ := open_intlist Try.underlying53 Try.underlying3 cells_int (by simpa [Value.cells] using t1)
  injection e1 with g01 g11 g21
  subst g01 g11 g21
  obtain ⟨a2, rfl, rfl, rfl, w2⟩ := open_int Try.underlying3 (hval 2 3 v2 rfl rfl) h2
  clear hA0 hval0
  refine (walkClientOnce b0 l0 m0 x0 b1 l1 m1 x1 a2 W hl0 hc0 hn0 hr0 hw0 hl1 hc1 hn1 hr1 hw1 w2).mono fun e W1 ⟨he, hg⟩ => ?_
  subst he
  exact ⟨_, rfl, law_end rfl rfl Try.underlying4 laidOut (readable_all (by rw [Try.params4]; kernel_rfl)) hW' rfl hg⟩

theorem proved : Rows.ClientOnceSaid :=
  OpenClaim.holds_of_wide 4 Try.f4 rfl rfl rfl rfl rfl rfl rfl ⟨rfl, rfl, rfl, rfl, rfl⟩ rfl rfl rfl rfl rfl (by kernel_rfl) Try.func4 (by kernel_rfl)
    (of_decide_eq_true (by kernel_rfl)) (by unfold Func.isWrapper; first | (rw [if_pos (by decide +kernel)]; kernel_rfl) | (rw [if_neg (by decide +kernel)]; exact ⟨rfl, rfl⟩))
    (fun os started H enc _ => lifted os started H enc)
#print axioms proved
end Go.Proofs.Ytigjipjkollohaa.clientOnce
