/-
  No cell of these rows narrows 'for every input' (looked for: loops, veiled, ifaces, maps, wideKeys, modest, calm, conditions, laid).
  DERIVED. THE GIVEN ROWS OF THIS SEAT. 4 by the template 'for every input the law returns true; each argument reads behind the call as it read before'; 0 by the template 'total and deterministic' (their statements: YtigjipjkollohaaTotals.lean).
  GIVEN WITH THE SEED: the statements are not yours to turn. If you find one false, say at which input.
  Laid BY PROGRAM, IN A SANDBOX (cutbox-rows.mjs): the forced cells as the released guide's own fill.sh prints them over the translation 34174a2b2bf2f460… (all of the seat's roots in one cut). By AI agents, Wed Nov 11 2026. No macro, syntax, notation, axiom, sorry.
-/
import Derived.Test.YtigjipjkollohaaChecked
import GoSem.Claim
import GoSem.ClaimJoined
import GoSem.ClaimMapViews
import Derived.JoinedTies
import Derived.KernelRfl
namespace Go.Proofs.Ytigjipjkollohaa
/- THE CELL 'sum', in the pinned program and in every row, IS THE sha256 OF THE DUMP (.gsa) THAT YtigjipjkollohaaProg.lean LOADS. Nothing in Lean hashes anything: it is a label: what it is worth is what the hold of that sum in a sandbox is worth. -/
noncomputable def Try.pinned : Pinned := { name := "ytigjipjkollohaa", sum := "34174a2b2bf2f460abe735b9c002f7c3af781843b690d74231a3d9b6bc8f3bae", checked := Try.checked }
namespace Rows
def none {H : Type} : Left H := { results := [], args := [] }

/-- 'freshetlaw18.ClientActs': WHATEVER THE INPUT: true; the input reads as it did. -/
def clientActsSpec : ChangeSpec := { name := "clientActs", fn := fun _ => fun
  | [d1, d2] => { results := [.lit (.bool true)], args := [d1, d2] }
  | _ => none }
def clientActsRow : OpenClaim := { program := "ytigjipjkollohaa", sum := "34174a2b2bf2f460abe735b9c002f7c3af781843b690d74231a3d9b6bc8f3bae", func := "freshet/freshetlaw18.ClientActs", spec := "clientActs", unfollowed := true, recurses := true, apart := false }
def ClientActsSaid : Prop := clientActsRow.holds Try.pinned (OpenSpec.ofChange clientActsSpec)

/-- ITS FALSE NEIGHBOUR: 'it returns false'. Refute it at one input. -/
def clientActsWrong : ChangeSpec := { name := "clientActs", fn := fun _ => fun
  | [d1, d2] => { results := [.lit (.bool false)], args := [d1, d2] }
  | _ => none }
def ClientActsWrongFalsely : Prop := clientActsRow.holds Try.pinned (OpenSpec.ofChange clientActsWrong)

/-- 'freshetlaw18.ClientOnce': WHATEVER THE INPUT: true; the input reads as it did. -/
def clientOnceSpec : ChangeSpec := { name := "clientOnce", fn := fun _ => fun
  | [d1, d2, d3] => { results := [.lit (.bool true)], args := [d1, d2, d3] }
  | _ => none }
def clientOnceRow : OpenClaim := { program := "ytigjipjkollohaa", sum := "34174a2b2bf2f460abe735b9c002f7c3af781843b690d74231a3d9b6bc8f3bae", func := "freshet/freshetlaw18.ClientOnce", spec := "clientOnce", unfollowed := true, recurses := true, apart := false }
def ClientOnceSaid : Prop := clientOnceRow.holds Try.pinned (OpenSpec.ofChange clientOnceSpec)

/-- ITS FALSE NEIGHBOUR: 'it returns false'. Refute it at one input. -/
def clientOnceWrong : ChangeSpec := { name := "clientOnce", fn := fun _ => fun
  | [d1, d2, d3] => { results := [.lit (.bool false)], args := [d1, d2, d3] }
  | _ => none }
def ClientOnceWrongFalsely : Prop := clientOnceRow.holds Try.pinned (OpenSpec.ofChange clientOnceWrong)

/-- 'freshetlaw18.ClientLate': WHATEVER THE INPUT: true; the input reads as it did. -/
def clientLateSpec : ChangeSpec := { name := "clientLate", fn := fun _ => fun
  | [d1, d2, d3] => { results := [.lit (.bool true)], args := [d1, d2, d3] }
  | _ => none }
def clientLateRow : OpenClaim := { program := "ytigjipjkollohaa", sum := "34174a2b2bf2f460abe735b9c002f7c3af781843b690d74231a3d9b6bc8f3bae", func := "freshet/freshetlaw18.ClientLate", spec := "clientLate", unfollowed := true, recurses := true, apart := false }
def ClientLateSaid : Prop := clientLateRow.holds Try.pinned (OpenSpec.ofChange clientLateSpec)

/-- ITS FALSE NEIGHBOUR: 'it returns false'. Refute it at one input. -/
def clientLateWrong : ChangeSpec := { name := "clientLate", fn := fun _ => fun
  | [d1, d2, d3] => { results := [.lit (.bool false)], args := [d1, d2, d3] }
  | _ => none }
def ClientLateWrongFalsely : Prop := clientLateRow.holds Try.pinned (OpenSpec.ofChange clientLateWrong)

/-- 'freshetlaw18.ClientJobs': WHATEVER THE INPUT: true; the input reads as it did. -/
def clientJobsSpec : ChangeSpec := { name := "clientJobs", fn := fun _ => fun
  | [d1, d2] => { results := [.lit (.bool true)], args := [d1, d2] }
  | _ => none }
def clientJobsRow : OpenClaim := { program := "ytigjipjkollohaa", sum := "34174a2b2bf2f460abe735b9c002f7c3af781843b690d74231a3d9b6bc8f3bae", func := "freshet/freshetlaw18.ClientJobs", spec := "clientJobs", unfollowed := true, recurses := true, apart := false }
def ClientJobsSaid : Prop := clientJobsRow.holds Try.pinned (OpenSpec.ofChange clientJobsSpec)

/-- ITS FALSE NEIGHBOUR: 'it returns false'. Refute it at one input. -/
def clientJobsWrong : ChangeSpec := { name := "clientJobs", fn := fun _ => fun
  | [d1, d2] => { results := [.lit (.bool false)], args := [d1, d2] }
  | _ => none }
def ClientJobsWrongFalsely : Prop := clientJobsRow.holds Try.pinned (OpenSpec.ofChange clientJobsWrong)

/- THE SECOND FORM. 'bulk': how many values and letters a reading holds, each counted each time it is reached (what is shared counts as often as it is met; a slice's spare places count too). A statement '..UptoSaid' is the law's where the arguments, and the package variables that the reading takes, are together of bulk at most 1048576: NARROWER than '..Said'. Prove '..Said' where nothing that the law and all that it calls make is longer than what came in: it says more and counts as full. Else prove '..UptoSaid'. A law counts once. -/
mutual
def uptoBulk {H : Type} : DataW H → Nat
  | .lit (.string bytes) => bytes.length + 1
  | .lit _ => 1
  | .nil => 1
  | .ptr d => uptoBulk d + 1
  | .slice elems spare => uptoBulkAll elems + uptoBulkAll spare + 1
  | .agg parts => uptoBulkAll parts + 1
  | .iface _ d => uptoBulk d + 1
  | .map entries => uptoBulkEntries entries + 1
  | .held _ => 1
def uptoBulkAll {H : Type} : List (DataW H) → Nat
  | [] => 0
  | d :: r => uptoBulk d + uptoBulkAll r
def uptoBulkEntries {H : Type} : List (Lit × DataW H) → Nat
  | [] => 0
  | x :: r => uptoBulkEntry x + uptoBulkEntries r
def uptoBulkEntry {H : Type} : Lit × DataW H → Nat
  | (.string bytes, d) => bytes.length + uptoBulk d + 1
  | (_, d) => uptoBulk d + 1
 end
def uptoSmall : (H : Type) → List (DataW H) → Bool := fun _ ds => decide (uptoBulkAll ds ≤ 1048576)
def OpenSpec.upto (s : _root_.Go.ChangeSpec) : _root_.Go.OpenSpec := { _root_.Go.OpenSpec.ofChange s with cond := some uptoSmall }

/-- 'freshetlaw18.ClientActs', WHERE WHAT IT READS IS OF BULK AT MOST 1048576: true; the input reads as it did. -/
def clientActsUptoRow : OpenClaim := { program := "ytigjipjkollohaa", sum := "34174a2b2bf2f460abe735b9c002f7c3af781843b690d74231a3d9b6bc8f3bae", func := "freshet/freshetlaw18.ClientActs", spec := "clientActs", unfollowed := true, recurses := true, apart := false, narrowed := true }
def ClientActsUptoSaid : Prop := clientActsUptoRow.holds Try.pinned (OpenSpec.upto clientActsSpec)

/-- 'freshetlaw18.ClientOnce', WHERE WHAT IT READS IS OF BULK AT MOST 1048576: true; the input reads as it did. -/
def clientOnceUptoRow : OpenClaim := { program := "ytigjipjkollohaa", sum := "34174a2b2bf2f460abe735b9c002f7c3af781843b690d74231a3d9b6bc8f3bae", func := "freshet/freshetlaw18.ClientOnce", spec := "clientOnce", unfollowed := true, recurses := true, apart := false, narrowed := true }
def ClientOnceUptoSaid : Prop := clientOnceUptoRow.holds Try.pinned (OpenSpec.upto clientOnceSpec)

/-- 'freshetlaw18.ClientLate', WHERE WHAT IT READS IS OF BULK AT MOST 1048576: true; the input reads as it did. -/
def clientLateUptoRow : OpenClaim := { program := "ytigjipjkollohaa", sum := "34174a2b2bf2f460abe735b9c002f7c3af781843b690d74231a3d9b6bc8f3bae", func := "freshet/freshetlaw18.ClientLate", spec := "clientLate", unfollowed := true, recurses := true, apart := false, narrowed := true }
def ClientLateUptoSaid : Prop := clientLateUptoRow.holds Try.pinned (OpenSpec.upto clientLateSpec)

/-- 'freshetlaw18.ClientJobs', WHERE WHAT IT READS IS OF BULK AT MOST 1048576: true; the input reads as it did. -/
def clientJobsUptoRow : OpenClaim := { program := "ytigjipjkollohaa", sum := "34174a2b2bf2f460abe735b9c002f7c3af781843b690d74231a3d9b6bc8f3bae", func := "freshet/freshetlaw18.ClientJobs", spec := "clientJobs", unfollowed := true, recurses := true, apart := false, narrowed := true }
def ClientJobsUptoSaid : Prop := clientJobsUptoRow.holds Try.pinned (OpenSpec.upto clientJobsSpec)

end Rows
end Go.Proofs.Ytigjipjkollohaa
