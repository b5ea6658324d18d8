/-
  No cell of these rows narrows 'for every input' (looked for: loops, veiled, ifaces, maps, wideKeys, modest, calm, conditions, laid).
  DERIVED. THE GIVEN ROWS OF THIS SEAT. 8 by the template 'for every input the law returns true; each argument reads behind the call as it read before'; 0 by the template 'total and deterministic' (their statements: YtjlgkljifpjehaaTotals.lean).
  GIVEN WITH THE SEED: the statements are not yours to turn. If you find one false, say at which input.
  Laid BY PROGRAM, IN A SANDBOX (cutbox-rows.mjs): the forced cells as the released guide's own fill.sh prints them over the translation 1a361fe6ca18b856… (all of the seat's roots in one cut). By AI agents, Wed Nov 11 2026. No macro, syntax, notation, axiom, sorry.
-/
import Derived.Test.YtjlgkljifpjehaaChecked
import GoSem.Claim
import GoSem.ClaimJoined
import GoSem.ClaimMapViews
import Derived.JoinedTies
import Derived.KernelRfl
namespace Go.Proofs.Ytjlgkljifpjehaa
/- THE CELL 'sum', in the pinned program and in every row, IS THE sha256 OF THE DUMP (.gsa) THAT YtjlgkljifpjehaaProg.lean LOADS. Nothing in Lean hashes anything: it is a label: what it is worth is what the hold of that sum in a sandbox is worth. -/
noncomputable def Try.pinned : Pinned := { name := "ytjlgkljifpjehaa", sum := "1a361fe6ca18b856391b9edde4438087150d7829a5e8f9e3dd8d83756a3fc78c", checked := Try.checked }
namespace Rows
def none {H : Type} : Left H := { results := [], args := [] }

/-- 'bazaarlaw15.GridEnds': WHATEVER THE INPUT: true; the input reads as it did. -/
def gridEndsSpec : ChangeSpec := { name := "gridEnds", fn := fun _ => fun
  | [d1, d2, d3] => { results := [.lit (.bool true)], args := [d1, d2, d3] }
  | _ => none }
def gridEndsRow : OpenClaim := { program := "ytjlgkljifpjehaa", sum := "1a361fe6ca18b856391b9edde4438087150d7829a5e8f9e3dd8d83756a3fc78c", func := "bazaar/bazaarlaw15.GridEnds", spec := "gridEnds", apart := false }
def GridEndsSaid : Prop := gridEndsRow.holds Try.pinned (OpenSpec.ofChange gridEndsSpec)

/-- ITS FALSE NEIGHBOUR: 'it returns false'. Refute it at one input. -/
def gridEndsWrong : ChangeSpec := { name := "gridEnds", fn := fun _ => fun
  | [d1, d2, d3] => { results := [.lit (.bool false)], args := [d1, d2, d3] }
  | _ => none }
def GridEndsWrongFalsely : Prop := gridEndsRow.holds Try.pinned (OpenSpec.ofChange gridEndsWrong)

/-- 'bazaarlaw15.GridActs': WHATEVER THE INPUT: true; the input reads as it did. -/
def gridActsSpec : ChangeSpec := { name := "gridActs", fn := fun _ => fun
  | [d1, d2, d3] => { results := [.lit (.bool true)], args := [d1, d2, d3] }
  | _ => none }
def gridActsRow : OpenClaim := { program := "ytjlgkljifpjehaa", sum := "1a361fe6ca18b856391b9edde4438087150d7829a5e8f9e3dd8d83756a3fc78c", func := "bazaar/bazaarlaw15.GridActs", spec := "gridActs", unfollowed := true, recurses := true, apart := false }
def GridActsSaid : Prop := gridActsRow.holds Try.pinned (OpenSpec.ofChange gridActsSpec)

/-- ITS FALSE NEIGHBOUR: 'it returns false'. Refute it at one input. -/
def gridActsWrong : ChangeSpec := { name := "gridActs", fn := fun _ => fun
  | [d1, d2, d3] => { results := [.lit (.bool false)], args := [d1, d2, d3] }
  | _ => none }
def GridActsWrongFalsely : Prop := gridActsRow.holds Try.pinned (OpenSpec.ofChange gridActsWrong)

/-- 'bazaarlaw15.GridFills': WHATEVER THE INPUT: true; the input reads as it did. -/
def gridFillsSpec : ChangeSpec := { name := "gridFills", fn := fun _ => fun
  | [d1, d2, d3] => { results := [.lit (.bool true)], args := [d1, d2, d3] }
  | _ => none }
def gridFillsRow : OpenClaim := { program := "ytjlgkljifpjehaa", sum := "1a361fe6ca18b856391b9edde4438087150d7829a5e8f9e3dd8d83756a3fc78c", func := "bazaar/bazaarlaw15.GridFills", spec := "gridFills", unfollowed := true, recurses := true, apart := false }
def GridFillsSaid : Prop := gridFillsRow.holds Try.pinned (OpenSpec.ofChange gridFillsSpec)

/-- ITS FALSE NEIGHBOUR: 'it returns false'. Refute it at one input. -/
def gridFillsWrong : ChangeSpec := { name := "gridFills", fn := fun _ => fun
  | [d1, d2, d3] => { results := [.lit (.bool false)], args := [d1, d2, d3] }
  | _ => none }
def GridFillsWrongFalsely : Prop := gridFillsRow.holds Try.pinned (OpenSpec.ofChange gridFillsWrong)

/-- 'bazaarlaw15.GridWalks': WHATEVER THE INPUT: true; the input reads as it did. -/
def gridWalksSpec : ChangeSpec := { name := "gridWalks", fn := fun _ => fun
  | [d1, d2, d3, d4] => { results := [.lit (.bool true)], args := [d1, d2, d3, d4] }
  | _ => none }
def gridWalksRow : OpenClaim := { program := "ytjlgkljifpjehaa", sum := "1a361fe6ca18b856391b9edde4438087150d7829a5e8f9e3dd8d83756a3fc78c", func := "bazaar/bazaarlaw15.GridWalks", spec := "gridWalks", unfollowed := true, recurses := true, apart := false }
def GridWalksSaid : Prop := gridWalksRow.holds Try.pinned (OpenSpec.ofChange gridWalksSpec)

/-- ITS FALSE NEIGHBOUR: 'it returns false'. Refute it at one input. -/
def gridWalksWrong : ChangeSpec := { name := "gridWalks", fn := fun _ => fun
  | [d1, d2, d3, d4] => { results := [.lit (.bool false)], args := [d1, d2, d3, d4] }
  | _ => none }
def GridWalksWrongFalsely : Prop := gridWalksRow.holds Try.pinned (OpenSpec.ofChange gridWalksWrong)

/-- 'bazaarlaw21.WheelOnce': WHATEVER THE INPUT: true; the input reads as it did. -/
def wheelOnceSpec : ChangeSpec := { name := "wheelOnce", fn := fun _ => fun
  | [d1, d2, d3] => { results := [.lit (.bool true)], args := [d1, d2, d3] }
  | _ => none }
def wheelOnceRow : OpenClaim := { program := "ytjlgkljifpjehaa", sum := "1a361fe6ca18b856391b9edde4438087150d7829a5e8f9e3dd8d83756a3fc78c", func := "bazaar/bazaarlaw21.WheelOnce", spec := "wheelOnce", unfollowed := true, recurses := true, apart := false }
def WheelOnceSaid : Prop := wheelOnceRow.holds Try.pinned (OpenSpec.ofChange wheelOnceSpec)

/-- ITS FALSE NEIGHBOUR: 'it returns false'. Refute it at one input. -/
def wheelOnceWrong : ChangeSpec := { name := "wheelOnce", fn := fun _ => fun
  | [d1, d2, d3] => { results := [.lit (.bool false)], args := [d1, d2, d3] }
  | _ => none }
def WheelOnceWrongFalsely : Prop := wheelOnceRow.holds Try.pinned (OpenSpec.ofChange wheelOnceWrong)

/-- 'bazaarlaw21.WheelAnew': WHATEVER THE INPUT: true; the input reads as it did. -/
def wheelAnewSpec : ChangeSpec := { name := "wheelAnew", fn := fun _ => fun
  | [d1, d2, d3, d4, d5] => { results := [.lit (.bool true)], args := [d1, d2, d3, d4, d5] }
  | _ => none }
def wheelAnewRow : OpenClaim := { program := "ytjlgkljifpjehaa", sum := "1a361fe6ca18b856391b9edde4438087150d7829a5e8f9e3dd8d83756a3fc78c", func := "bazaar/bazaarlaw21.WheelAnew", spec := "wheelAnew", unfollowed := true, recurses := true, apart := false }
def WheelAnewSaid : Prop := wheelAnewRow.holds Try.pinned (OpenSpec.ofChange wheelAnewSpec)

/-- ITS FALSE NEIGHBOUR: 'it returns false'. Refute it at one input. -/
def wheelAnewWrong : ChangeSpec := { name := "wheelAnew", fn := fun _ => fun
  | [d1, d2, d3, d4, d5] => { results := [.lit (.bool false)], args := [d1, d2, d3, d4, d5] }
  | _ => none }
def WheelAnewWrongFalsely : Prop := wheelAnewRow.holds Try.pinned (OpenSpec.ofChange wheelAnewWrong)

/-- 'bazaarlaw21.WheelFar': WHATEVER THE INPUT: true; the input reads as it did. -/
def wheelFarSpec : ChangeSpec := { name := "wheelFar", fn := fun _ => fun
  | [d1, d2, d3] => { results := [.lit (.bool true)], args := [d1, d2, d3] }
  | _ => none }
def wheelFarRow : OpenClaim := { program := "ytjlgkljifpjehaa", sum := "1a361fe6ca18b856391b9edde4438087150d7829a5e8f9e3dd8d83756a3fc78c", func := "bazaar/bazaarlaw21.WheelFar", spec := "wheelFar", unfollowed := true, recurses := true, apart := false }
def WheelFarSaid : Prop := wheelFarRow.holds Try.pinned (OpenSpec.ofChange wheelFarSpec)

/-- ITS FALSE NEIGHBOUR: 'it returns false'. Refute it at one input. -/
def wheelFarWrong : ChangeSpec := { name := "wheelFar", fn := fun _ => fun
  | [d1, d2, d3] => { results := [.lit (.bool false)], args := [d1, d2, d3] }
  | _ => none }
def WheelFarWrongFalsely : Prop := wheelFarRow.holds Try.pinned (OpenSpec.ofChange wheelFarWrong)

/-- 'bazaarlaw21.WheelActs': WHATEVER THE INPUT: true; the input reads as it did. -/
def wheelActsSpec : ChangeSpec := { name := "wheelActs", fn := fun _ => fun
  | [d1, d2] => { results := [.lit (.bool true)], args := [d1, d2] }
  | _ => none }
def wheelActsRow : OpenClaim := { program := "ytjlgkljifpjehaa", sum := "1a361fe6ca18b856391b9edde4438087150d7829a5e8f9e3dd8d83756a3fc78c", func := "bazaar/bazaarlaw21.WheelActs", spec := "wheelActs", unfollowed := true, recurses := true, apart := false }
def WheelActsSaid : Prop := wheelActsRow.holds Try.pinned (OpenSpec.ofChange wheelActsSpec)

/-- ITS FALSE NEIGHBOUR: 'it returns false'. Refute it at one input. -/
def wheelActsWrong : ChangeSpec := { name := "wheelActs", fn := fun _ => fun
  | [d1, d2] => { results := [.lit (.bool false)], args := [d1, d2] }
  | _ => none }
def WheelActsWrongFalsely : Prop := wheelActsRow.holds Try.pinned (OpenSpec.ofChange wheelActsWrong)

/- THE SECOND FORM. 'bulk': how many values and letters a reading holds, each counted each time it is reached (what is shared counts as often as it is met; a slice's spare places count too). A statement '..UptoSaid' is the law's where the arguments, and the package variables that the reading takes, are together of bulk at most 1048576: NARROWER than '..Said'. Prove '..Said' where nothing that the law and all that it calls make is longer than what came in: it says more and counts as full. Else prove '..UptoSaid'. A law counts once. -/
mutual
def uptoBulk {H : Type} : DataW H → Nat
  | .lit (.string bytes) => bytes.length + 1
  | .lit _ => 1
  | .nil => 1
  | .ptr d => uptoBulk d + 1
  | .slice elems spare => uptoBulkAll elems + uptoBulkAll spare + 1
  | .agg parts => uptoBulkAll parts + 1
  | .iface _ d => uptoBulk d + 1
  | .map entries => uptoBulkEntries entries + 1
  | .held _ => 1
def uptoBulkAll {H : Type} : List (DataW H) → Nat
  | [] => 0
  | d :: r => uptoBulk d + uptoBulkAll r
def uptoBulkEntries {H : Type} : List (Lit × DataW H) → Nat
  | [] => 0
  | x :: r => uptoBulkEntry x + uptoBulkEntries r
def uptoBulkEntry {H : Type} : Lit × DataW H → Nat
  | (.string bytes, d) => bytes.length + uptoBulk d + 1
  | (_, d) => uptoBulk d + 1
 end
def uptoSmall : (H : Type) → List (DataW H) → Bool := fun _ ds => decide (uptoBulkAll ds ≤ 1048576)
def OpenSpec.upto (s : _root_.Go.ChangeSpec) : _root_.Go.OpenSpec := { _root_.Go.OpenSpec.ofChange s with cond := some uptoSmall }

/-- 'bazaarlaw15.GridEnds', WHERE WHAT IT READS IS OF BULK AT MOST 1048576: true; the input reads as it did. -/
def gridEndsUptoRow : OpenClaim := { program := "ytjlgkljifpjehaa", sum := "1a361fe6ca18b856391b9edde4438087150d7829a5e8f9e3dd8d83756a3fc78c", func := "bazaar/bazaarlaw15.GridEnds", spec := "gridEnds", apart := false, narrowed := true }
def GridEndsUptoSaid : Prop := gridEndsUptoRow.holds Try.pinned (OpenSpec.upto gridEndsSpec)

/-- 'bazaarlaw15.GridActs', WHERE WHAT IT READS IS OF BULK AT MOST 1048576: true; the input reads as it did. -/
def gridActsUptoRow : OpenClaim := { program := "ytjlgkljifpjehaa", sum := "1a361fe6ca18b856391b9edde4438087150d7829a5e8f9e3dd8d83756a3fc78c", func := "bazaar/bazaarlaw15.GridActs", spec := "gridActs", unfollowed := true, recurses := true, apart := false, narrowed := true }
def GridActsUptoSaid : Prop := gridActsUptoRow.holds Try.pinned (OpenSpec.upto gridActsSpec)

/-- 'bazaarlaw15.GridFills', WHERE WHAT IT READS IS OF BULK AT MOST 1048576: true; the input reads as it did. -/
def gridFillsUptoRow : OpenClaim := { program := "ytjlgkljifpjehaa", sum := "1a361fe6ca18b856391b9edde4438087150d7829a5e8f9e3dd8d83756a3fc78c", func := "bazaar/bazaarlaw15.GridFills", spec := "gridFills", unfollowed := true, recurses := true, apart := false, narrowed := true }
def GridFillsUptoSaid : Prop := gridFillsUptoRow.holds Try.pinned (OpenSpec.upto gridFillsSpec)

/-- 'bazaarlaw15.GridWalks', WHERE WHAT IT READS IS OF BULK AT MOST 1048576: true; the input reads as it did. -/
def gridWalksUptoRow : OpenClaim := { program := "ytjlgkljifpjehaa", sum := "1a361fe6ca18b856391b9edde4438087150d7829a5e8f9e3dd8d83756a3fc78c", func := "bazaar/bazaarlaw15.GridWalks", spec := "gridWalks", unfollowed := true, recurses := true, apart := false, narrowed := true }
def GridWalksUptoSaid : Prop := gridWalksUptoRow.holds Try.pinned (OpenSpec.upto gridWalksSpec)

/-- 'bazaarlaw21.WheelOnce', WHERE WHAT IT READS IS OF BULK AT MOST 1048576: true; the input reads as it did. -/
def wheelOnceUptoRow : OpenClaim := { program := "ytjlgkljifpjehaa", sum := "1a361fe6ca18b856391b9edde4438087150d7829a5e8f9e3dd8d83756a3fc78c", func := "bazaar/bazaarlaw21.WheelOnce", spec := "wheelOnce", unfollowed := true, recurses := true, apart := false, narrowed := true }
def WheelOnceUptoSaid : Prop := wheelOnceUptoRow.holds Try.pinned (OpenSpec.upto wheelOnceSpec)

/-- 'bazaarlaw21.WheelAnew', WHERE WHAT IT READS IS OF BULK AT MOST 1048576: true; the input reads as it did. -/
def wheelAnewUptoRow : OpenClaim := { program := "ytjlgkljifpjehaa", sum := "1a361fe6ca18b856391b9edde4438087150d7829a5e8f9e3dd8d83756a3fc78c", func := "bazaar/bazaarlaw21.WheelAnew", spec := "wheelAnew", unfollowed := true, recurses := true, apart := false, narrowed := true }
def WheelAnewUptoSaid : Prop := wheelAnewUptoRow.holds Try.pinned (OpenSpec.upto wheelAnewSpec)

/-- 'bazaarlaw21.WheelFar', WHERE WHAT IT READS IS OF BULK AT MOST 1048576: true; the input reads as it did. -/
def wheelFarUptoRow : OpenClaim := { program := "ytjlgkljifpjehaa", sum := "1a361fe6ca18b856391b9edde4438087150d7829a5e8f9e3dd8d83756a3fc78c", func := "bazaar/bazaarlaw21.WheelFar", spec := "wheelFar", unfollowed := true, recurses := true, apart := false, narrowed := true }
def WheelFarUptoSaid : Prop := wheelFarUptoRow.holds Try.pinned (OpenSpec.upto wheelFarSpec)

/-- 'bazaarlaw21.WheelActs', WHERE WHAT IT READS IS OF BULK AT MOST 1048576: true; the input reads as it did. -/
def wheelActsUptoRow : OpenClaim := { program := "ytjlgkljifpjehaa", sum := "1a361fe6ca18b856391b9edde4438087150d7829a5e8f9e3dd8d83756a3fc78c", func := "bazaar/bazaarlaw21.WheelActs", spec := "wheelActs", unfollowed := true, recurses := true, apart := false, narrowed := true }
def WheelActsUptoSaid : Prop := wheelActsUptoRow.holds Try.pinned (OpenSpec.upto wheelActsSpec)

end Rows
end Go.Proofs.Ytjlgkljifpjehaa
