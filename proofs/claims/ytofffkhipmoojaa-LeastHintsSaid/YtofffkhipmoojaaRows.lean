/-
  No cell of these rows narrows 'for every input' (looked for: loops, veiled, ifaces, maps, wideKeys, modest, calm, conditions, laid).
  DERIVED. THE GIVEN ROWS OF THIS SEAT. 4 by the template 'for every input the law returns true; each argument reads behind the call as it read before'; 0 by the template 'total and deterministic' (their statements: YtofffkhipmoojaaTotals.lean).
  GIVEN WITH THE SEED: the statements are not yours to turn. If you find one false, say at which input.
  Laid BY PROGRAM, IN A SANDBOX (cutbox-rows.mjs): the forced cells as the released guide's own fill.sh prints them over the translation fc0adb352ea567ef… (all of the seat's roots in one cut). By AI agents, Wed Nov 11 2026. No macro, syntax, notation, axiom, sorry.
-/
import Derived.Test.YtofffkhipmoojaaChecked
import GoSem.Claim
import GoSem.ClaimJoined
import GoSem.ClaimMapViews
import Derived.JoinedTies
import Derived.KernelRfl
namespace Go.Proofs.Ytofffkhipmoojaa
/- THE CELL 'sum', in the pinned program and in every row, IS THE sha256 OF THE DUMP (.gsa) THAT YtofffkhipmoojaaProg.lean LOADS. Nothing in Lean hashes anything: it is a label: what it is worth is what the hold of that sum in a sandbox is worth. -/
noncomputable def Try.pinned : Pinned := { name := "ytofffkhipmoojaa", sum := "fc0adb352ea567ef9dbdb939fc9bfa95d5f3837b8006b782ddf167d3a8933aa3", checked := Try.checked }
namespace Rows
def none {H : Type} : Left H := { results := [], args := [] }

/-- 'freshetlaw20.LeastTells': WHATEVER THE INPUT: true; the input reads as it did. -/
def leastTellsSpec : ChangeSpec := { name := "leastTells", fn := fun _ => fun
  | [d] => { results := [.lit (.bool true)], args := [d] }
  | _ => none }
def leastTellsRow : OpenClaim := { program := "ytofffkhipmoojaa", sum := "fc0adb352ea567ef9dbdb939fc9bfa95d5f3837b8006b782ddf167d3a8933aa3", func := "freshet/freshetlaw20.LeastTells", spec := "leastTells", apart := false }
def LeastTellsSaid : Prop := leastTellsRow.holds Try.pinned (OpenSpec.ofChange leastTellsSpec)

/-- ITS FALSE NEIGHBOUR: 'it returns false'. Refute it at one input. -/
def leastTellsWrong : ChangeSpec := { name := "leastTells", fn := fun _ => fun
  | [d] => { results := [.lit (.bool false)], args := [d] }
  | _ => none }
def LeastTellsWrongFalsely : Prop := leastTellsRow.holds Try.pinned (OpenSpec.ofChange leastTellsWrong)

/-- 'freshetlaw20.LeastBounds': WHATEVER THE INPUT: true; the input reads as it did. -/
def leastBoundsSpec : ChangeSpec := { name := "leastBounds", fn := fun _ => fun
  | [d1, d2, d3] => { results := [.lit (.bool true)], args := [d1, d2, d3] }
  | _ => none }
def leastBoundsRow : OpenClaim := { program := "ytofffkhipmoojaa", sum := "fc0adb352ea567ef9dbdb939fc9bfa95d5f3837b8006b782ddf167d3a8933aa3", func := "freshet/freshetlaw20.LeastBounds", spec := "leastBounds", apart := false }
def LeastBoundsSaid : Prop := leastBoundsRow.holds Try.pinned (OpenSpec.ofChange leastBoundsSpec)

/-- ITS FALSE NEIGHBOUR: 'it returns false'. Refute it at one input. -/
def leastBoundsWrong : ChangeSpec := { name := "leastBounds", fn := fun _ => fun
  | [d1, d2, d3] => { results := [.lit (.bool false)], args := [d1, d2, d3] }
  | _ => none }
def LeastBoundsWrongFalsely : Prop := leastBoundsRow.holds Try.pinned (OpenSpec.ofChange leastBoundsWrong)

/-- 'freshetlaw20.LeastHints': WHATEVER THE INPUT: true; the input reads as it did. -/
def leastHintsSpec : ChangeSpec := { name := "leastHints", fn := fun _ => fun
  | [d1, d2, d3] => { results := [.lit (.bool true)], args := [d1, d2, d3] }
  | _ => none }
def leastHintsRow : OpenClaim := { program := "ytofffkhipmoojaa", sum := "fc0adb352ea567ef9dbdb939fc9bfa95d5f3837b8006b782ddf167d3a8933aa3", func := "freshet/freshetlaw20.LeastHints", spec := "leastHints", apart := false }
def LeastHintsSaid : Prop := leastHintsRow.holds Try.pinned (OpenSpec.ofChange leastHintsSpec)

/-- ITS FALSE NEIGHBOUR: 'it returns false'. Refute it at one input. -/
def leastHintsWrong : ChangeSpec := { name := "leastHints", fn := fun _ => fun
  | [d1, d2, d3] => { results := [.lit (.bool false)], args := [d1, d2, d3] }
  | _ => none }
def LeastHintsWrongFalsely : Prop := leastHintsRow.holds Try.pinned (OpenSpec.ofChange leastHintsWrong)

/-- 'freshetlaw20.LeastHolds': WHATEVER THE INPUT: true; the input reads as it did. -/
def leastHoldsSpec : ChangeSpec := { name := "leastHolds", fn := fun _ => fun
  | [d1, d2, d3, d4] => { results := [.lit (.bool true)], args := [d1, d2, d3, d4] }
  | _ => none }
def leastHoldsRow : OpenClaim := { program := "ytofffkhipmoojaa", sum := "fc0adb352ea567ef9dbdb939fc9bfa95d5f3837b8006b782ddf167d3a8933aa3", func := "freshet/freshetlaw20.LeastHolds", spec := "leastHolds", apart := false }
def LeastHoldsSaid : Prop := leastHoldsRow.holds Try.pinned (OpenSpec.ofChange leastHoldsSpec)

/-- ITS FALSE NEIGHBOUR: 'it returns false'. Refute it at one input. -/
def leastHoldsWrong : ChangeSpec := { name := "leastHolds", fn := fun _ => fun
  | [d1, d2, d3, d4] => { results := [.lit (.bool false)], args := [d1, d2, d3, d4] }
  | _ => none }
def LeastHoldsWrongFalsely : Prop := leastHoldsRow.holds Try.pinned (OpenSpec.ofChange leastHoldsWrong)

/- THE SECOND FORM. 'bulk': how many values and letters a reading holds, each counted each time it is reached (what is shared counts as often as it is met; a slice's spare places count too). A statement '..UptoSaid' is the law's where the arguments, and the package variables that the reading takes, are together of bulk at most 1048576: NARROWER than '..Said'. Prove '..Said' where nothing that the law and all that it calls make is longer than what came in: it says more and counts as full. Else prove '..UptoSaid'. A law counts once. -/
mutual
def uptoBulk {H : Type} : DataW H → Nat
  | .lit (.string bytes) => bytes.length + 1
  | .lit _ => 1
  | .nil => 1
  | .ptr d => uptoBulk d + 1
  | .slice elems spare => uptoBulkAll elems + uptoBulkAll spare + 1
  | .agg parts => uptoBulkAll parts + 1
  | .iface _ d => uptoBulk d + 1
  | .map entries => uptoBulkEntries entries + 1
  | .held _ => 1
def uptoBulkAll {H : Type} : List (DataW H) → Nat
  | [] => 0
  | d :: r => uptoBulk d + uptoBulkAll r
def uptoBulkEntries {H : Type} : List (Lit × DataW H) → Nat
  | [] => 0
  | x :: r => uptoBulkEntry x + uptoBulkEntries r
def uptoBulkEntry {H : Type} : Lit × DataW H → Nat
  | (.string bytes, d) => bytes.length + uptoBulk d + 1
  | (_, d) => uptoBulk d + 1
 end
def uptoSmall : (H : Type) → List (DataW H) → Bool := fun _ ds => decide (uptoBulkAll ds ≤ 1048576)
def OpenSpec.upto (s : _root_.Go.ChangeSpec) : _root_.Go.OpenSpec := { _root_.Go.OpenSpec.ofChange s with cond := some uptoSmall }

/-- 'freshetlaw20.LeastTells', WHERE WHAT IT READS IS OF BULK AT MOST 1048576: true; the input reads as it did. -/
def leastTellsUptoRow : OpenClaim := { program := "ytofffkhipmoojaa", sum := "fc0adb352ea567ef9dbdb939fc9bfa95d5f3837b8006b782ddf167d3a8933aa3", func := "freshet/freshetlaw20.LeastTells", spec := "leastTells", apart := false, narrowed := true }
def LeastTellsUptoSaid : Prop := leastTellsUptoRow.holds Try.pinned (OpenSpec.upto leastTellsSpec)

/-- 'freshetlaw20.LeastBounds', WHERE WHAT IT READS IS OF BULK AT MOST 1048576: true; the input reads as it did. -/
def leastBoundsUptoRow : OpenClaim := { program := "ytofffkhipmoojaa", sum := "fc0adb352ea567ef9dbdb939fc9bfa95d5f3837b8006b782ddf167d3a8933aa3", func := "freshet/freshetlaw20.LeastBounds", spec := "leastBounds", apart := false, narrowed := true }
def LeastBoundsUptoSaid : Prop := leastBoundsUptoRow.holds Try.pinned (OpenSpec.upto leastBoundsSpec)

/-- 'freshetlaw20.LeastHints', WHERE WHAT IT READS IS OF BULK AT MOST 1048576: true; the input reads as it did. -/
def leastHintsUptoRow : OpenClaim := { program := "ytofffkhipmoojaa", sum := "fc0adb352ea567ef9dbdb939fc9bfa95d5f3837b8006b782ddf167d3a8933aa3", func := "freshet/freshetlaw20.LeastHints", spec := "leastHints", apart := false, narrowed := true }
def LeastHintsUptoSaid : Prop := leastHintsUptoRow.holds Try.pinned (OpenSpec.upto leastHintsSpec)

/-- 'freshetlaw20.LeastHolds', WHERE WHAT IT READS IS OF BULK AT MOST 1048576: true; the input reads as it did. -/
def leastHoldsUptoRow : OpenClaim := { program := "ytofffkhipmoojaa", sum := "fc0adb352ea567ef9dbdb939fc9bfa95d5f3837b8006b782ddf167d3a8933aa3", func := "freshet/freshetlaw20.LeastHolds", spec := "leastHolds", apart := false, narrowed := true }
def LeastHoldsUptoSaid : Prop := leastHoldsUptoRow.holds Try.pinned (OpenSpec.upto leastHoldsSpec)

end Rows
end Go.Proofs.Ytofffkhipmoojaa
