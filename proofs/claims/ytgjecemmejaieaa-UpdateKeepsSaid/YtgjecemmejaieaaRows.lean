/-
  No cell of these rows narrows 'for every input' (looked for: loops, veiled, ifaces, maps, wideKeys, modest, calm, conditions, laid).
  DERIVED. THE GIVEN ROWS OF THIS SEAT. 3 by the template 'for every input the law returns true; each argument reads behind the call as it read before'; 0 by the template 'total and deterministic' (their statements: YtgjecemmejaieaaTotals.lean).
  GIVEN WITH THE SEED: the statements are not yours to turn. If you find one false, say at which input.
  Laid BY PROGRAM, IN A SANDBOX (cutbox-rows.mjs): the forced cells as the released guide's own fill.sh prints them over the translation 07744e7c47a57e10… (all of the seat's roots in one cut). By AI agents, Wed Nov 11 2026. No macro, syntax, notation, axiom, sorry.
-/
import Derived.Test.YtgjecemmejaieaaChecked
import GoSem.Claim
import GoSem.ClaimJoined
import GoSem.ClaimMapViews
import Derived.JoinedTies
import Derived.KernelRfl
namespace Go.Proofs.Ytgjecemmejaieaa
/- THE CELL 'sum', in the pinned program and in every row, IS THE sha256 OF THE DUMP (.gsa) THAT YtgjecemmejaieaaProg.lean LOADS. Nothing in Lean hashes anything: it is a label: what it is worth is what the hold of that sum in a sandbox is worth. -/
noncomputable def Try.pinned : Pinned := { name := "ytgjecemmejaieaa", sum := "07744e7c47a57e10e64f205f494ec4af671218812c76a5732b2582eff6597a51", checked := Try.checked }
namespace Rows
def none {H : Type} : Left H := { results := [], args := [] }

/-- 'bazaarlaw22.UpdateKeeps': WHATEVER THE INPUT: true; the input reads as it did. -/
def updateKeepsSpec : ChangeSpec := { name := "updateKeeps", fn := fun _ => fun
  | [d1, d2] => { results := [.lit (.bool true)], args := [d1, d2] }
  | _ => none }
def updateKeepsRow : OpenClaim := { program := "ytgjecemmejaieaa", sum := "07744e7c47a57e10e64f205f494ec4af671218812c76a5732b2582eff6597a51", func := "bazaar/bazaarlaw22.UpdateKeeps", spec := "updateKeeps", unfollowed := true, recurses := true, plainKeys := false, apart := false }
def UpdateKeepsSaid : Prop := updateKeepsRow.holds Try.pinned (OpenSpec.ofChange updateKeepsSpec)

/-- ITS FALSE NEIGHBOUR: 'it returns false'. Refute it at one input. -/
def updateKeepsWrong : ChangeSpec := { name := "updateKeeps", fn := fun _ => fun
  | [d1, d2] => { results := [.lit (.bool false)], args := [d1, d2] }
  | _ => none }
def UpdateKeepsWrongFalsely : Prop := updateKeepsRow.holds Try.pinned (OpenSpec.ofChange updateKeepsWrong)

/-- 'bazaarlaw22.UpdateEnds': WHATEVER THE INPUT: true; the input reads as it did. -/
def updateEndsSpec : ChangeSpec := { name := "updateEnds", fn := fun _ => fun
  | [d1, d2] => { results := [.lit (.bool true)], args := [d1, d2] }
  | _ => none }
def updateEndsRow : OpenClaim := { program := "ytgjecemmejaieaa", sum := "07744e7c47a57e10e64f205f494ec4af671218812c76a5732b2582eff6597a51", func := "bazaar/bazaarlaw22.UpdateEnds", spec := "updateEnds", unfollowed := true, recurses := true, plainKeys := false, apart := false }
def UpdateEndsSaid : Prop := updateEndsRow.holds Try.pinned (OpenSpec.ofChange updateEndsSpec)

/-- ITS FALSE NEIGHBOUR: 'it returns false'. Refute it at one input. -/
def updateEndsWrong : ChangeSpec := { name := "updateEnds", fn := fun _ => fun
  | [d1, d2] => { results := [.lit (.bool false)], args := [d1, d2] }
  | _ => none }
def UpdateEndsWrongFalsely : Prop := updateEndsRow.holds Try.pinned (OpenSpec.ofChange updateEndsWrong)

/-- 'bazaarlaw22.UpdateMarks': WHATEVER THE INPUT: true; the input reads as it did. -/
def updateMarksSpec : ChangeSpec := { name := "updateMarks", fn := fun _ => fun
  | [d1, d2] => { results := [.lit (.bool true)], args := [d1, d2] }
  | _ => none }
def updateMarksRow : OpenClaim := { program := "ytgjecemmejaieaa", sum := "07744e7c47a57e10e64f205f494ec4af671218812c76a5732b2582eff6597a51", func := "bazaar/bazaarlaw22.UpdateMarks", spec := "updateMarks", unfollowed := true, recurses := true, plainKeys := false, apart := false }
def UpdateMarksSaid : Prop := updateMarksRow.holds Try.pinned (OpenSpec.ofChange updateMarksSpec)

/-- ITS FALSE NEIGHBOUR: 'it returns false'. Refute it at one input. -/
def updateMarksWrong : ChangeSpec := { name := "updateMarks", fn := fun _ => fun
  | [d1, d2] => { results := [.lit (.bool false)], args := [d1, d2] }
  | _ => none }
def UpdateMarksWrongFalsely : Prop := updateMarksRow.holds Try.pinned (OpenSpec.ofChange updateMarksWrong)

/- THE SECOND FORM. 'bulk': how many values and letters a reading holds, each counted each time it is reached (what is shared counts as often as it is met; a slice's spare places count too). A statement '..UptoSaid' is the law's where the arguments, and the package variables that the reading takes, are together of bulk at most 1048576: NARROWER than '..Said'. Prove '..Said' where nothing that the law and all that it calls make is longer than what came in: it says more and counts as full. Else prove '..UptoSaid'. A law counts once. -/
mutual
def uptoBulk {H : Type} : DataW H → Nat
  | .lit (.string bytes) => bytes.length + 1
  | .lit _ => 1
  | .nil => 1
  | .ptr d => uptoBulk d + 1
  | .slice elems spare => uptoBulkAll elems + uptoBulkAll spare + 1
  | .agg parts => uptoBulkAll parts + 1
  | .iface _ d => uptoBulk d + 1
  | .map entries => uptoBulkEntries entries + 1
  | .held _ => 1
def uptoBulkAll {H : Type} : List (DataW H) → Nat
  | [] => 0
  | d :: r => uptoBulk d + uptoBulkAll r
def uptoBulkEntries {H : Type} : List (Lit × DataW H) → Nat
  | [] => 0
  | x :: r => uptoBulkEntry x + uptoBulkEntries r
def uptoBulkEntry {H : Type} : Lit × DataW H → Nat
  | (.string bytes, d) => bytes.length + uptoBulk d + 1
  | (_, d) => uptoBulk d + 1
 end
def uptoSmall : (H : Type) → List (DataW H) → Bool := fun _ ds => decide (uptoBulkAll ds ≤ 1048576)
def OpenSpec.upto (s : _root_.Go.ChangeSpec) : _root_.Go.OpenSpec := { _root_.Go.OpenSpec.ofChange s with cond := some uptoSmall }

/-- 'bazaarlaw22.UpdateKeeps', WHERE WHAT IT READS IS OF BULK AT MOST 1048576: true; the input reads as it did. -/
def updateKeepsUptoRow : OpenClaim := { program := "ytgjecemmejaieaa", sum := "07744e7c47a57e10e64f205f494ec4af671218812c76a5732b2582eff6597a51", func := "bazaar/bazaarlaw22.UpdateKeeps", spec := "updateKeeps", unfollowed := true, recurses := true, plainKeys := false, apart := false, narrowed := true }
def UpdateKeepsUptoSaid : Prop := updateKeepsUptoRow.holds Try.pinned (OpenSpec.upto updateKeepsSpec)

/-- 'bazaarlaw22.UpdateEnds', WHERE WHAT IT READS IS OF BULK AT MOST 1048576: true; the input reads as it did. -/
def updateEndsUptoRow : OpenClaim := { program := "ytgjecemmejaieaa", sum := "07744e7c47a57e10e64f205f494ec4af671218812c76a5732b2582eff6597a51", func := "bazaar/bazaarlaw22.UpdateEnds", spec := "updateEnds", unfollowed := true, recurses := true, plainKeys := false, apart := false, narrowed := true }
def UpdateEndsUptoSaid : Prop := updateEndsUptoRow.holds Try.pinned (OpenSpec.upto updateEndsSpec)

/-- 'bazaarlaw22.UpdateMarks', WHERE WHAT IT READS IS OF BULK AT MOST 1048576: true; the input reads as it did. -/
def updateMarksUptoRow : OpenClaim := { program := "ytgjecemmejaieaa", sum := "07744e7c47a57e10e64f205f494ec4af671218812c76a5732b2582eff6597a51", func := "bazaar/bazaarlaw22.UpdateMarks", spec := "updateMarks", unfollowed := true, recurses := true, plainKeys := false, apart := false, narrowed := true }
def UpdateMarksUptoSaid : Prop := updateMarksUptoRow.holds Try.pinned (OpenSpec.upto updateMarksSpec)

end Rows
end Go.Proofs.Ytgjecemmejaieaa
