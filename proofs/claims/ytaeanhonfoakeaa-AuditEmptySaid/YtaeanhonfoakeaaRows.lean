/-
  No cell of these rows narrows 'for every input' (looked for: loops, veiled, ifaces, maps, wideKeys, modest, calm, conditions, laid).
  DERIVED. THE GIVEN ROWS OF THIS SEAT. 4 by the template 'for every input the law returns true; each argument reads behind the call as it read before'; 0 by the template 'total and deterministic' (their statements: YtaeanhonfoakeaaTotals.lean).
  GIVEN WITH THE SEED: the statements are not yours to turn. If you find one false, say at which input.
  Laid BY PROGRAM, IN A SANDBOX (cutbox-rows.mjs): the forced cells as the released guide's own fill.sh prints them over the translation 8ec699de6d694c0e… (all of the seat's roots in one cut). By AI agents, Wed Nov 11 2026. No macro, syntax, notation, axiom, sorry.
-/
import Derived.Test.YtaeanhonfoakeaaChecked
import GoSem.Claim
import GoSem.ClaimJoined
import GoSem.ClaimMapViews
import Derived.JoinedTies
import Derived.KernelRfl
namespace Go.Proofs.Ytaeanhonfoakeaa
/- THE CELL 'sum', in the pinned program and in every row, IS THE sha256 OF THE DUMP (.gsa) THAT YtaeanhonfoakeaaProg.lean LOADS. Nothing in Lean hashes anything: it is a label: what it is worth is what the hold of that sum in a sandbox is worth. -/
noncomputable def Try.pinned : Pinned := { name := "ytaeanhonfoakeaa", sum := "8ec699de6d694c0ee580e6987a5048eae76bbd805eace412e171b9afce152bdd", checked := Try.checked }
namespace Rows
def none {H : Type} : Left H := { results := [], args := [] }

/-- 'heronrylaw24.AuditTells': WHATEVER THE INPUT: true; the input reads as it did. -/
def auditTellsSpec : ChangeSpec := { name := "auditTells", fn := fun _ => fun
  | [d1, d2, d3] => { results := [.lit (.bool true)], args := [d1, d2, d3] }
  | _ => none }
def auditTellsRow : OpenClaim := { program := "ytaeanhonfoakeaa", sum := "8ec699de6d694c0ee580e6987a5048eae76bbd805eace412e171b9afce152bdd", func := "heronry/heronrylaw24.AuditTells", spec := "auditTells", unfollowed := true, recurses := true, plainKeys := false, apart := false }
def AuditTellsSaid : Prop := auditTellsRow.holds Try.pinned (OpenSpec.ofChange auditTellsSpec)

/-- ITS FALSE NEIGHBOUR: 'it returns false'. Refute it at one input. -/
def auditTellsWrong : ChangeSpec := { name := "auditTells", fn := fun _ => fun
  | [d1, d2, d3] => { results := [.lit (.bool false)], args := [d1, d2, d3] }
  | _ => none }
def AuditTellsWrongFalsely : Prop := auditTellsRow.holds Try.pinned (OpenSpec.ofChange auditTellsWrong)

/-- 'heronrylaw24.AuditParts': WHATEVER THE INPUT: true; the input reads as it did. -/
def auditPartsSpec : ChangeSpec := { name := "auditParts", fn := fun _ => fun
  | [d1, d2, d3] => { results := [.lit (.bool true)], args := [d1, d2, d3] }
  | _ => none }
def auditPartsRow : OpenClaim := { program := "ytaeanhonfoakeaa", sum := "8ec699de6d694c0ee580e6987a5048eae76bbd805eace412e171b9afce152bdd", func := "heronry/heronrylaw24.AuditParts", spec := "auditParts", unfollowed := true, recurses := true, plainKeys := false, apart := false }
def AuditPartsSaid : Prop := auditPartsRow.holds Try.pinned (OpenSpec.ofChange auditPartsSpec)

/-- ITS FALSE NEIGHBOUR: 'it returns false'. Refute it at one input. -/
def auditPartsWrong : ChangeSpec := { name := "auditParts", fn := fun _ => fun
  | [d1, d2, d3] => { results := [.lit (.bool false)], args := [d1, d2, d3] }
  | _ => none }
def AuditPartsWrongFalsely : Prop := auditPartsRow.holds Try.pinned (OpenSpec.ofChange auditPartsWrong)

/-- 'heronrylaw24.AuditIs': WHATEVER THE INPUT: true; the input reads as it did. -/
def auditIsSpec : ChangeSpec := { name := "auditIs", fn := fun _ => fun
  | [d1, d2, d3, d4] => { results := [.lit (.bool true)], args := [d1, d2, d3, d4] }
  | _ => none }
def auditIsRow : OpenClaim := { program := "ytaeanhonfoakeaa", sum := "8ec699de6d694c0ee580e6987a5048eae76bbd805eace412e171b9afce152bdd", func := "heronry/heronrylaw24.AuditIs", spec := "auditIs", unfollowed := true, recurses := true, plainKeys := false, apart := false }
def AuditIsSaid : Prop := auditIsRow.holds Try.pinned (OpenSpec.ofChange auditIsSpec)

/-- ITS FALSE NEIGHBOUR: 'it returns false'. Refute it at one input. -/
def auditIsWrong : ChangeSpec := { name := "auditIs", fn := fun _ => fun
  | [d1, d2, d3, d4] => { results := [.lit (.bool false)], args := [d1, d2, d3, d4] }
  | _ => none }
def AuditIsWrongFalsely : Prop := auditIsRow.holds Try.pinned (OpenSpec.ofChange auditIsWrong)

/-- 'heronrylaw24.AuditEmpty': WHATEVER THE INPUT: true; the input reads as it did. -/
def auditEmptySpec : ChangeSpec := { name := "auditEmpty", fn := fun _ => fun
  | [d1, d2] => { results := [.lit (.bool true)], args := [d1, d2] }
  | _ => none }
def auditEmptyRow : OpenClaim := { program := "ytaeanhonfoakeaa", sum := "8ec699de6d694c0ee580e6987a5048eae76bbd805eace412e171b9afce152bdd", func := "heronry/heronrylaw24.AuditEmpty", spec := "auditEmpty", unfollowed := true, recurses := true, plainKeys := false, apart := false }
def AuditEmptySaid : Prop := auditEmptyRow.holds Try.pinned (OpenSpec.ofChange auditEmptySpec)

/-- ITS FALSE NEIGHBOUR: 'it returns false'. Refute it at one input. -/
def auditEmptyWrong : ChangeSpec := { name := "auditEmpty", fn := fun _ => fun
  | [d1, d2] => { results := [.lit (.bool false)], args := [d1, d2] }
  | _ => none }
def AuditEmptyWrongFalsely : Prop := auditEmptyRow.holds Try.pinned (OpenSpec.ofChange auditEmptyWrong)

/- THE SECOND FORM. 'bulk': how many values and letters a reading holds, each counted each time it is reached (what is shared counts as often as it is met; a slice's spare places count too). A statement '..UptoSaid' is the law's where the arguments, and the package variables that the reading takes, are together of bulk at most 1048576: NARROWER than '..Said'. Prove '..Said' where nothing that the law and all that it calls make is longer than what came in: it says more and counts as full. Else prove '..UptoSaid'. A law counts once. -/
mutual
def uptoBulk {H : Type} : DataW H → Nat
  | .lit (.string bytes) => bytes.length + 1
  | .lit _ => 1
  | .nil => 1
  | .ptr d => uptoBulk d + 1
  | .slice elems spare => uptoBulkAll elems + uptoBulkAll spare + 1
  | .agg parts => uptoBulkAll parts + 1
  | .iface _ d => uptoBulk d + 1
  | .map entries => uptoBulkEntries entries + 1
  | .held _ => 1
def uptoBulkAll {H : Type} : List (DataW H) → Nat
  | [] => 0
  | d :: r => uptoBulk d + uptoBulkAll r
def uptoBulkEntries {H : Type} : List (Lit × DataW H) → Nat
  | [] => 0
  | x :: r => uptoBulkEntry x + uptoBulkEntries r
def uptoBulkEntry {H : Type} : Lit × DataW H → Nat
  | (.string bytes, d) => bytes.length + uptoBulk d + 1
  | (_, d) => uptoBulk d + 1
 end
def uptoSmall : (H : Type) → List (DataW H) → Bool := fun _ ds => decide (uptoBulkAll ds ≤ 1048576)
def OpenSpec.upto (s : _root_.Go.ChangeSpec) : _root_.Go.OpenSpec := { _root_.Go.OpenSpec.ofChange s with cond := some uptoSmall }

/-- 'heronrylaw24.AuditTells', WHERE WHAT IT READS IS OF BULK AT MOST 1048576: true; the input reads as it did. -/
def auditTellsUptoRow : OpenClaim := { program := "ytaeanhonfoakeaa", sum := "8ec699de6d694c0ee580e6987a5048eae76bbd805eace412e171b9afce152bdd", func := "heronry/heronrylaw24.AuditTells", spec := "auditTells", unfollowed := true, recurses := true, plainKeys := false, apart := false, narrowed := true }
def AuditTellsUptoSaid : Prop := auditTellsUptoRow.holds Try.pinned (OpenSpec.upto auditTellsSpec)

/-- 'heronrylaw24.AuditParts', WHERE WHAT IT READS IS OF BULK AT MOST 1048576: true; the input reads as it did. -/
def auditPartsUptoRow : OpenClaim := { program := "ytaeanhonfoakeaa", sum := "8ec699de6d694c0ee580e6987a5048eae76bbd805eace412e171b9afce152bdd", func := "heronry/heronrylaw24.AuditParts", spec := "auditParts", unfollowed := true, recurses := true, plainKeys := false, apart := false, narrowed := true }
def AuditPartsUptoSaid : Prop := auditPartsUptoRow.holds Try.pinned (OpenSpec.upto auditPartsSpec)

/-- 'heronrylaw24.AuditIs', WHERE WHAT IT READS IS OF BULK AT MOST 1048576: true; the input reads as it did. -/
def auditIsUptoRow : OpenClaim := { program := "ytaeanhonfoakeaa", sum := "8ec699de6d694c0ee580e6987a5048eae76bbd805eace412e171b9afce152bdd", func := "heronry/heronrylaw24.AuditIs", spec := "auditIs", unfollowed := true, recurses := true, plainKeys := false, apart := false, narrowed := true }
def AuditIsUptoSaid : Prop := auditIsUptoRow.holds Try.pinned (OpenSpec.upto auditIsSpec)

/-- 'heronrylaw24.AuditEmpty', WHERE WHAT IT READS IS OF BULK AT MOST 1048576: true; the input reads as it did. -/
def auditEmptyUptoRow : OpenClaim := { program := "ytaeanhonfoakeaa", sum := "8ec699de6d694c0ee580e6987a5048eae76bbd805eace412e171b9afce152bdd", func := "heronry/heronrylaw24.AuditEmpty", spec := "auditEmpty", unfollowed := true, recurses := true, plainKeys := false, apart := false, narrowed := true }
def AuditEmptyUptoSaid : Prop := auditEmptyUptoRow.holds Try.pinned (OpenSpec.upto auditEmptySpec)

end Rows
end Go.Proofs.Ytaeanhonfoakeaa
