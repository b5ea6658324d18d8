/-
  No cell of these rows narrows 'for every input' (looked for: loops, veiled, ifaces, maps, wideKeys, modest, calm, conditions, laid).
  DERIVED. THE GIVEN ROWS OF THIS SEAT. 3 by the template 'for every input the law returns true; each argument reads behind the call as it read before'; 0 by the template 'total and deterministic' (their statements: YtaadkehopfjclaaTotals.lean).
  GIVEN WITH THE SEED: the statements are not yours to turn. If you find one false, say at which input.
  Laid BY PROGRAM, IN A SANDBOX (cutbox-rows.mjs): the forced cells as the released guide's own fill.sh prints them over the translation 56ebc1ff16e59b15… (all of the seat's roots in one cut). By AI agents, Wed Nov 11 2026. No macro, syntax, notation, axiom, sorry.
-/
import Derived.Test.YtaadkehopfjclaaChecked
import GoSem.Claim
import GoSem.ClaimJoined
import GoSem.ClaimMapViews
import Derived.JoinedTies
import Derived.KernelRfl
namespace Go.Proofs.Ytaadkehopfjclaa
/- THE CELL 'sum', in the pinned program and in every row, IS THE sha256 OF THE DUMP (.gsa) THAT YtaadkehopfjclaaProg.lean LOADS. Nothing in Lean hashes anything: it is a label: what it is worth is what the hold of that sum in a sandbox is worth. -/
noncomputable def Try.pinned : Pinned := { name := "ytaadkehopfjclaa", sum := "56ebc1ff16e59b150415c728f6b74242350dea1220df3201472832a28d47d5c9", checked := Try.checked }
namespace Rows
def none {H : Type} : Left H := { results := [], args := [] }

/-- 'bazaarlaw21.WheelOnce': WHATEVER THE INPUT: true; the input reads as it did. -/
def wheelOnceSpec : ChangeSpec := { name := "wheelOnce", fn := fun _ => fun
  | [d1, d2, d3] => { results := [.lit (.bool true)], args := [d1, d2, d3] }
  | _ => none }
def wheelOnceRow : OpenClaim := { program := "ytaadkehopfjclaa", sum := "56ebc1ff16e59b150415c728f6b74242350dea1220df3201472832a28d47d5c9", func := "bazaar/bazaarlaw21.WheelOnce", spec := "wheelOnce", unfollowed := true, recurses := true, apart := false }
def WheelOnceSaid : Prop := wheelOnceRow.holds Try.pinned (OpenSpec.ofChange wheelOnceSpec)

/-- ITS FALSE NEIGHBOUR: 'it returns false'. Refute it at one input. -/
def wheelOnceWrong : ChangeSpec := { name := "wheelOnce", fn := fun _ => fun
  | [d1, d2, d3] => { results := [.lit (.bool false)], args := [d1, d2, d3] }
  | _ => none }
def WheelOnceWrongFalsely : Prop := wheelOnceRow.holds Try.pinned (OpenSpec.ofChange wheelOnceWrong)

/-- 'bazaarlaw21.WheelAnew': WHATEVER THE INPUT: true; the input reads as it did. -/
def wheelAnewSpec : ChangeSpec := { name := "wheelAnew", fn := fun _ => fun
  | [d1, d2, d3, d4, d5] => { results := [.lit (.bool true)], args := [d1, d2, d3, d4, d5] }
  | _ => none }
def wheelAnewRow : OpenClaim := { program := "ytaadkehopfjclaa", sum := "56ebc1ff16e59b150415c728f6b74242350dea1220df3201472832a28d47d5c9", func := "bazaar/bazaarlaw21.WheelAnew", spec := "wheelAnew", unfollowed := true, recurses := true, apart := false }
def WheelAnewSaid : Prop := wheelAnewRow.holds Try.pinned (OpenSpec.ofChange wheelAnewSpec)

/-- ITS FALSE NEIGHBOUR: 'it returns false'. Refute it at one input. -/
def wheelAnewWrong : ChangeSpec := { name := "wheelAnew", fn := fun _ => fun
  | [d1, d2, d3, d4, d5] => { results := [.lit (.bool false)], args := [d1, d2, d3, d4, d5] }
  | _ => none }
def WheelAnewWrongFalsely : Prop := wheelAnewRow.holds Try.pinned (OpenSpec.ofChange wheelAnewWrong)

/-- 'bazaarlaw21.WheelFar': WHATEVER THE INPUT: true; the input reads as it did. -/
def wheelFarSpec : ChangeSpec := { name := "wheelFar", fn := fun _ => fun
  | [d1, d2, d3] => { results := [.lit (.bool true)], args := [d1, d2, d3] }
  | _ => none }
def wheelFarRow : OpenClaim := { program := "ytaadkehopfjclaa", sum := "56ebc1ff16e59b150415c728f6b74242350dea1220df3201472832a28d47d5c9", func := "bazaar/bazaarlaw21.WheelFar", spec := "wheelFar", unfollowed := true, recurses := true, apart := false }
def WheelFarSaid : Prop := wheelFarRow.holds Try.pinned (OpenSpec.ofChange wheelFarSpec)

/-- ITS FALSE NEIGHBOUR: 'it returns false'. Refute it at one input. -/
def wheelFarWrong : ChangeSpec := { name := "wheelFar", fn := fun _ => fun
  | [d1, d2, d3] => { results := [.lit (.bool false)], args := [d1, d2, d3] }
  | _ => none }
def WheelFarWrongFalsely : Prop := wheelFarRow.holds Try.pinned (OpenSpec.ofChange wheelFarWrong)

/- THE SECOND FORM. 'bulk': how many values and letters a reading holds, each counted each time it is reached (what is shared counts as often as it is met; a slice's spare places count too). A statement '..UptoSaid' is the law's where the arguments, and the package variables that the reading takes, are together of bulk at most 1048576: NARROWER than '..Said'. Prove '..Said' where nothing that the law and all that it calls make is longer than what came in: it says more and counts as full. Else prove '..UptoSaid'. A law counts once. -/
mutual
def uptoBulk {H : Type} : DataW H → Nat
  | .lit (.string bytes) => bytes.length + 1
  | .lit _ => 1
  | .nil => 1
  | .ptr d => uptoBulk d + 1
  | .slice elems spare => uptoBulkAll elems + uptoBulkAll spare + 1
  | .agg parts => uptoBulkAll parts + 1
  | .iface _ d => uptoBulk d + 1
  | .map entries => uptoBulkEntries entries + 1
  | .held _ => 1
def uptoBulkAll {H : Type} : List (DataW H) → Nat
  | [] => 0
  | d :: r => uptoBulk d + uptoBulkAll r
def uptoBulkEntries {H : Type} : List (Lit × DataW H) → Nat
  | [] => 0
  | x :: r => uptoBulkEntry x + uptoBulkEntries r
def uptoBulkEntry {H : Type} : Lit × DataW H → Nat
  | (.string bytes, d) => bytes.length + uptoBulk d + 1
  | (_, d) => uptoBulk d + 1
 end
def uptoSmall : (H : Type) → List (DataW H) → Bool := fun _ ds => decide (uptoBulkAll ds ≤ 1048576)
def OpenSpec.upto (s : _root_.Go.ChangeSpec) : _root_.Go.OpenSpec := { _root_.Go.OpenSpec.ofChange s with cond := some uptoSmall }

/-- 'bazaarlaw21.WheelOnce', WHERE WHAT IT READS IS OF BULK AT MOST 1048576: true; the input reads as it did. -/
def wheelOnceUptoRow : OpenClaim := { program := "ytaadkehopfjclaa", sum := "56ebc1ff16e59b150415c728f6b74242350dea1220df3201472832a28d47d5c9", func := "bazaar/bazaarlaw21.WheelOnce", spec := "wheelOnce", unfollowed := true, recurses := true, apart := false, narrowed := true }
def WheelOnceUptoSaid : Prop := wheelOnceUptoRow.holds Try.pinned (OpenSpec.upto wheelOnceSpec)

/-- 'bazaarlaw21.WheelAnew', WHERE WHAT IT READS IS OF BULK AT MOST 1048576: true; the input reads as it did. -/
def wheelAnewUptoRow : OpenClaim := { program := "ytaadkehopfjclaa", sum := "56ebc1ff16e59b150415c728f6b74242350dea1220df3201472832a28d47d5c9", func := "bazaar/bazaarlaw21.WheelAnew", spec := "wheelAnew", unfollowed := true, recurses := true, apart := false, narrowed := true }
def WheelAnewUptoSaid : Prop := wheelAnewUptoRow.holds Try.pinned (OpenSpec.upto wheelAnewSpec)

/-- 'bazaarlaw21.WheelFar', WHERE WHAT IT READS IS OF BULK AT MOST 1048576: true; the input reads as it did. -/
def wheelFarUptoRow : OpenClaim := { program := "ytaadkehopfjclaa", sum := "56ebc1ff16e59b150415c728f6b74242350dea1220df3201472832a28d47d5c9", func := "bazaar/bazaarlaw21.WheelFar", spec := "wheelFar", unfollowed := true, recurses := true, apart := false, narrowed := true }
def WheelFarUptoSaid : Prop := wheelFarUptoRow.holds Try.pinned (OpenSpec.upto wheelFarSpec)

end Rows
end Go.Proofs.Ytaadkehopfjclaa
