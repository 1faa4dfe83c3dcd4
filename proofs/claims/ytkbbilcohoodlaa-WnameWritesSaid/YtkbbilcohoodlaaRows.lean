/-
  No cell of these rows narrows 'for every input' (looked for: loops, veiled, ifaces, maps, wideKeys, modest, calm, conditions, laid).
  DERIVED. THE GIVEN ROWS OF THIS SEAT. 6 by the template 'for every input the law returns true; each argument reads behind the call as it read before'; 0 by the template 'total and deterministic' (their statements: YtkbbilcohoodlaaTotals.lean).
  GIVEN WITH THE SEED: the statements are not yours to turn. If you find one false, say at which input.
  Laid BY PROGRAM, IN A SANDBOX (cutbox-rows.mjs): the forced cells as the released guide's own fill.sh prints them over the translation b773442f45806373… (all of the seat's roots in one cut). By AI agents, Wed Nov 11 2026. No macro, syntax, notation, axiom, sorry.
-/
import Derived.Test.YtkbbilcohoodlaaChecked
import GoSem.Claim
import GoSem.ClaimJoined
import GoSem.ClaimMapViews
import Derived.JoinedTies
import Derived.KernelRfl
namespace Go.Proofs.Ytkbbilcohoodlaa
/- THE CELL 'sum', in the pinned program and in every row, IS THE sha256 OF THE DUMP (.gsa) THAT YtkbbilcohoodlaaProg.lean LOADS. Nothing in Lean hashes anything: it is a label: what it is worth is what the hold of that sum in a sandbox is worth. -/
noncomputable def Try.pinned : Pinned := { name := "ytkbbilcohoodlaa", sum := "b773442f458063739b5cbe67e2a9833a202b32a49ad73ed89f4c1c96df00de90", checked := Try.checked }
namespace Rows
def none {H : Type} : Left H := { results := [], args := [] }

/-- 'freshetlaw2.WnameGets': WHATEVER THE INPUT: true; the input reads as it did. -/
def wnameGetsSpec : ChangeSpec := { name := "wnameGets", fn := fun _ => fun
  | [d1, d2] => { results := [.lit (.bool true)], args := [d1, d2] }
  | _ => none }
def wnameGetsRow : OpenClaim := { program := "ytkbbilcohoodlaa", sum := "b773442f458063739b5cbe67e2a9833a202b32a49ad73ed89f4c1c96df00de90", func := "freshet/freshetlaw2.WnameGets", spec := "wnameGets", apart := false }
def WnameGetsSaid : Prop := wnameGetsRow.holds Try.pinned (OpenSpec.ofChange wnameGetsSpec)

/-- ITS FALSE NEIGHBOUR: 'it returns false'. Refute it at one input. -/
def wnameGetsWrong : ChangeSpec := { name := "wnameGets", fn := fun _ => fun
  | [d1, d2] => { results := [.lit (.bool false)], args := [d1, d2] }
  | _ => none }
def WnameGetsWrongFalsely : Prop := wnameGetsRow.holds Try.pinned (OpenSpec.ofChange wnameGetsWrong)

/-- 'freshetlaw2.WnameLoops': WHATEVER THE INPUT: true; the input reads as it did. -/
def wnameLoopsSpec : ChangeSpec := { name := "wnameLoops", fn := fun _ => fun
  | [d1, d2, d3] => { results := [.lit (.bool true)], args := [d1, d2, d3] }
  | _ => none }
def wnameLoopsRow : OpenClaim := { program := "ytkbbilcohoodlaa", sum := "b773442f458063739b5cbe67e2a9833a202b32a49ad73ed89f4c1c96df00de90", func := "freshet/freshetlaw2.WnameLoops", spec := "wnameLoops", apart := false }
def WnameLoopsSaid : Prop := wnameLoopsRow.holds Try.pinned (OpenSpec.ofChange wnameLoopsSpec)

/-- ITS FALSE NEIGHBOUR: 'it returns false'. Refute it at one input. -/
def wnameLoopsWrong : ChangeSpec := { name := "wnameLoops", fn := fun _ => fun
  | [d1, d2, d3] => { results := [.lit (.bool false)], args := [d1, d2, d3] }
  | _ => none }
def WnameLoopsWrongFalsely : Prop := wnameLoopsRow.holds Try.pinned (OpenSpec.ofChange wnameLoopsWrong)

/-- 'freshetlaw2.WnameSqueezes': WHATEVER THE INPUT: true; the input reads as it did. -/
def wnameSqueezesSpec : ChangeSpec := { name := "wnameSqueezes", fn := fun _ => fun
  | [d1, d2, d3] => { results := [.lit (.bool true)], args := [d1, d2, d3] }
  | _ => none }
def wnameSqueezesRow : OpenClaim := { program := "ytkbbilcohoodlaa", sum := "b773442f458063739b5cbe67e2a9833a202b32a49ad73ed89f4c1c96df00de90", func := "freshet/freshetlaw2.WnameSqueezes", spec := "wnameSqueezes", apart := false }
def WnameSqueezesSaid : Prop := wnameSqueezesRow.holds Try.pinned (OpenSpec.ofChange wnameSqueezesSpec)

/-- ITS FALSE NEIGHBOUR: 'it returns false'. Refute it at one input. -/
def wnameSqueezesWrong : ChangeSpec := { name := "wnameSqueezes", fn := fun _ => fun
  | [d1, d2, d3] => { results := [.lit (.bool false)], args := [d1, d2, d3] }
  | _ => none }
def WnameSqueezesWrongFalsely : Prop := wnameSqueezesRow.holds Try.pinned (OpenSpec.ofChange wnameSqueezesWrong)

/-- 'freshetlaw2.WnameWrites': WHATEVER THE INPUT: true; the input reads as it did. -/
def wnameWritesSpec : ChangeSpec := { name := "wnameWrites", fn := fun _ => fun
  | [d1, d2] => { results := [.lit (.bool true)], args := [d1, d2] }
  | _ => none }
def wnameWritesRow : OpenClaim := { program := "ytkbbilcohoodlaa", sum := "b773442f458063739b5cbe67e2a9833a202b32a49ad73ed89f4c1c96df00de90", func := "freshet/freshetlaw2.WnameWrites", spec := "wnameWrites", apart := false }
def WnameWritesSaid : Prop := wnameWritesRow.holds Try.pinned (OpenSpec.ofChange wnameWritesSpec)

/-- ITS FALSE NEIGHBOUR: 'it returns false'. Refute it at one input. -/
def wnameWritesWrong : ChangeSpec := { name := "wnameWrites", fn := fun _ => fun
  | [d1, d2] => { results := [.lit (.bool false)], args := [d1, d2] }
  | _ => none }
def WnameWritesWrongFalsely : Prop := wnameWritesRow.holds Try.pinned (OpenSpec.ofChange wnameWritesWrong)

/-- 'freshetlaw2.WnameBack': WHATEVER THE INPUT: true; the input reads as it did. -/
def wnameBackSpec : ChangeSpec := { name := "wnameBack", fn := fun _ => fun
  | [d1, d2, d3] => { results := [.lit (.bool true)], args := [d1, d2, d3] }
  | _ => none }
def wnameBackRow : OpenClaim := { program := "ytkbbilcohoodlaa", sum := "b773442f458063739b5cbe67e2a9833a202b32a49ad73ed89f4c1c96df00de90", func := "freshet/freshetlaw2.WnameBack", spec := "wnameBack", apart := false }
def WnameBackSaid : Prop := wnameBackRow.holds Try.pinned (OpenSpec.ofChange wnameBackSpec)

/-- ITS FALSE NEIGHBOUR: 'it returns false'. Refute it at one input. -/
def wnameBackWrong : ChangeSpec := { name := "wnameBack", fn := fun _ => fun
  | [d1, d2, d3] => { results := [.lit (.bool false)], args := [d1, d2, d3] }
  | _ => none }
def WnameBackWrongFalsely : Prop := wnameBackRow.holds Try.pinned (OpenSpec.ofChange wnameBackWrong)

/-- 'freshetlaw2.WnameNumbers': WHATEVER THE INPUT: true; the input reads as it did. -/
def wnameNumbersSpec : ChangeSpec := { name := "wnameNumbers", fn := fun _ => fun
  | [d1, d2, d3, d4] => { results := [.lit (.bool true)], args := [d1, d2, d3, d4] }
  | _ => none }
def wnameNumbersRow : OpenClaim := { program := "ytkbbilcohoodlaa", sum := "b773442f458063739b5cbe67e2a9833a202b32a49ad73ed89f4c1c96df00de90", func := "freshet/freshetlaw2.WnameNumbers", spec := "wnameNumbers", apart := false }
def WnameNumbersSaid : Prop := wnameNumbersRow.holds Try.pinned (OpenSpec.ofChange wnameNumbersSpec)

/-- ITS FALSE NEIGHBOUR: 'it returns false'. Refute it at one input. -/
def wnameNumbersWrong : ChangeSpec := { name := "wnameNumbers", fn := fun _ => fun
  | [d1, d2, d3, d4] => { results := [.lit (.bool false)], args := [d1, d2, d3, d4] }
  | _ => none }
def WnameNumbersWrongFalsely : Prop := wnameNumbersRow.holds Try.pinned (OpenSpec.ofChange wnameNumbersWrong)

/- THE SECOND FORM. 'bulk': how many values and letters a reading holds, each counted each time it is reached (what is shared counts as often as it is met; a slice's spare places count too). A statement '..UptoSaid' is the law's where the arguments, and the package variables that the reading takes, are together of bulk at most 1048576: NARROWER than '..Said'. Prove '..Said' where nothing that the law and all that it calls make is longer than what came in: it says more and counts as full. Else prove '..UptoSaid'. A law counts once. -/
mutual
def uptoBulk {H : Type} : DataW H → Nat
  | .lit (.string bytes) => bytes.length + 1
  | .lit _ => 1
  | .nil => 1
  | .ptr d => uptoBulk d + 1
  | .slice elems spare => uptoBulkAll elems + uptoBulkAll spare + 1
  | .agg parts => uptoBulkAll parts + 1
  | .iface _ d => uptoBulk d + 1
  | .map entries => uptoBulkEntries entries + 1
  | .held _ => 1
def uptoBulkAll {H : Type} : List (DataW H) → Nat
  | [] => 0
  | d :: r => uptoBulk d + uptoBulkAll r
def uptoBulkEntries {H : Type} : List (Lit × DataW H) → Nat
  | [] => 0
  | x :: r => uptoBulkEntry x + uptoBulkEntries r
def uptoBulkEntry {H : Type} : Lit × DataW H → Nat
  | (.string bytes, d) => bytes.length + uptoBulk d + 1
  | (_, d) => uptoBulk d + 1
 end
def uptoSmall : (H : Type) → List (DataW H) → Bool := fun _ ds => decide (uptoBulkAll ds ≤ 1048576)
def OpenSpec.upto (s : _root_.Go.ChangeSpec) : _root_.Go.OpenSpec := { _root_.Go.OpenSpec.ofChange s with cond := some uptoSmall }

/-- 'freshetlaw2.WnameGets', WHERE WHAT IT READS IS OF BULK AT MOST 1048576: true; the input reads as it did. -/
def wnameGetsUptoRow : OpenClaim := { program := "ytkbbilcohoodlaa", sum := "b773442f458063739b5cbe67e2a9833a202b32a49ad73ed89f4c1c96df00de90", func := "freshet/freshetlaw2.WnameGets", spec := "wnameGets", apart := false, narrowed := true }
def WnameGetsUptoSaid : Prop := wnameGetsUptoRow.holds Try.pinned (OpenSpec.upto wnameGetsSpec)

/-- 'freshetlaw2.WnameLoops', WHERE WHAT IT READS IS OF BULK AT MOST 1048576: true; the input reads as it did. -/
def wnameLoopsUptoRow : OpenClaim := { program := "ytkbbilcohoodlaa", sum := "b773442f458063739b5cbe67e2a9833a202b32a49ad73ed89f4c1c96df00de90", func := "freshet/freshetlaw2.WnameLoops", spec := "wnameLoops", apart := false, narrowed := true }
def WnameLoopsUptoSaid : Prop := wnameLoopsUptoRow.holds Try.pinned (OpenSpec.upto wnameLoopsSpec)

/-- 'freshetlaw2.WnameSqueezes', WHERE WHAT IT READS IS OF BULK AT MOST 1048576: true; the input reads as it did. -/
def wnameSqueezesUptoRow : OpenClaim := { program := "ytkbbilcohoodlaa", sum := "b773442f458063739b5cbe67e2a9833a202b32a49ad73ed89f4c1c96df00de90", func := "freshet/freshetlaw2.WnameSqueezes", spec := "wnameSqueezes", apart := false, narrowed := true }
def WnameSqueezesUptoSaid : Prop := wnameSqueezesUptoRow.holds Try.pinned (OpenSpec.upto wnameSqueezesSpec)

/-- 'freshetlaw2.WnameWrites', WHERE WHAT IT READS IS OF BULK AT MOST 1048576: true; the input reads as it did. -/
def wnameWritesUptoRow : OpenClaim := { program := "ytkbbilcohoodlaa", sum := "b773442f458063739b5cbe67e2a9833a202b32a49ad73ed89f4c1c96df00de90", func := "freshet/freshetlaw2.WnameWrites", spec := "wnameWrites", apart := false, narrowed := true }
def WnameWritesUptoSaid : Prop := wnameWritesUptoRow.holds Try.pinned (OpenSpec.upto wnameWritesSpec)

/-- 'freshetlaw2.WnameBack', WHERE WHAT IT READS IS OF BULK AT MOST 1048576: true; the input reads as it did. -/
def wnameBackUptoRow : OpenClaim := { program := "ytkbbilcohoodlaa", sum := "b773442f458063739b5cbe67e2a9833a202b32a49ad73ed89f4c1c96df00de90", func := "freshet/freshetlaw2.WnameBack", spec := "wnameBack", apart := false, narrowed := true }
def WnameBackUptoSaid : Prop := wnameBackUptoRow.holds Try.pinned (OpenSpec.upto wnameBackSpec)

/-- 'freshetlaw2.WnameNumbers', WHERE WHAT IT READS IS OF BULK AT MOST 1048576: true; the input reads as it did. -/
def wnameNumbersUptoRow : OpenClaim := { program := "ytkbbilcohoodlaa", sum := "b773442f458063739b5cbe67e2a9833a202b32a49ad73ed89f4c1c96df00de90", func := "freshet/freshetlaw2.WnameNumbers", spec := "wnameNumbers", apart := false, narrowed := true }
def WnameNumbersUptoSaid : Prop := wnameNumbersUptoRow.holds Try.pinned (OpenSpec.upto wnameNumbersSpec)

end Rows
end Go.Proofs.Ytkbbilcohoodlaa
