/-
  No cell of these rows narrows 'for every input' (looked for: loops, veiled, ifaces, maps, wideKeys, modest, calm, conditions, laid).
  DERIVED. THE GIVEN ROWS OF THIS SEAT. 8 by the template 'for every input the law returns true; each argument reads behind the call as it read before'; 0 by the template 'total and deterministic' (their statements: YtjjadakjkkmjgaaTotals.lean).
  GIVEN WITH THE SEED: the statements are not yours to turn. If you find one false, say at which input.
  Laid BY PROGRAM, IN A SANDBOX (cutbox-rows.mjs): the forced cells as the released guide's own fill.sh prints them over the translation 3d6f5db796584964… (all of the seat's roots in one cut). By AI agents, Wed Nov 11 2026. No macro, syntax, notation, axiom, sorry.
-/
import Derived.Test.YtjjadakjkkmjgaaChecked
import GoSem.Claim
import GoSem.ClaimJoined
import GoSem.ClaimMapViews
import Derived.JoinedTies
import Derived.KernelRfl
namespace Go.Proofs.Ytjjadakjkkmjgaa
/- THE CELL 'sum', in the pinned program and in every row, IS THE sha256 OF THE DUMP (.gsa) THAT YtjjadakjkkmjgaaProg.lean LOADS. Nothing in Lean hashes anything: it is a label: what it is worth is what the hold of that sum in a sandbox is worth. -/
noncomputable def Try.pinned : Pinned := { name := "ytjjadakjkkmjgaa", sum := "3d6f5db79658496474138e430ee66cd6a7d595603bfe5fd49128ec21a0f694b2", checked := Try.checked }
namespace Rows
def none {H : Type} : Left H := { results := [], args := [] }

/-- 'bazaarlaw13.FamilyChecks': WHATEVER THE INPUT: true; the input reads as it did. -/
def familyChecksSpec : ChangeSpec := { name := "familyChecks", fn := fun _ => fun
  | [d1, d2, d3] => { results := [.lit (.bool true)], args := [d1, d2, d3] }
  | _ => none }
def familyChecksRow : OpenClaim := { program := "ytjjadakjkkmjgaa", sum := "3d6f5db79658496474138e430ee66cd6a7d595603bfe5fd49128ec21a0f694b2", func := "bazaar/bazaarlaw13.FamilyChecks", spec := "familyChecks", apart := false }
def FamilyChecksSaid : Prop := familyChecksRow.holds Try.pinned (OpenSpec.ofChange familyChecksSpec)

/-- ITS FALSE NEIGHBOUR: 'it returns false'. Refute it at one input. -/
def familyChecksWrong : ChangeSpec := { name := "familyChecks", fn := fun _ => fun
  | [d1, d2, d3] => { results := [.lit (.bool false)], args := [d1, d2, d3] }
  | _ => none }
def FamilyChecksWrongFalsely : Prop := familyChecksRow.holds Try.pinned (OpenSpec.ofChange familyChecksWrong)

/-- 'bazaarlaw13.FamilyAlone': WHATEVER THE INPUT: true; the input reads as it did. -/
def familyAloneSpec : ChangeSpec := { name := "familyAlone", fn := fun _ => fun
  | [d1, d2, d3, d4] => { results := [.lit (.bool true)], args := [d1, d2, d3, d4] }
  | _ => none }
def familyAloneRow : OpenClaim := { program := "ytjjadakjkkmjgaa", sum := "3d6f5db79658496474138e430ee66cd6a7d595603bfe5fd49128ec21a0f694b2", func := "bazaar/bazaarlaw13.FamilyAlone", spec := "familyAlone", apart := false }
def FamilyAloneSaid : Prop := familyAloneRow.holds Try.pinned (OpenSpec.ofChange familyAloneSpec)

/-- ITS FALSE NEIGHBOUR: 'it returns false'. Refute it at one input. -/
def familyAloneWrong : ChangeSpec := { name := "familyAlone", fn := fun _ => fun
  | [d1, d2, d3, d4] => { results := [.lit (.bool false)], args := [d1, d2, d3, d4] }
  | _ => none }
def FamilyAloneWrongFalsely : Prop := familyAloneRow.holds Try.pinned (OpenSpec.ofChange familyAloneWrong)

/-- 'bazaarlaw13.FamilyTells': WHATEVER THE INPUT: true; the input reads as it did. -/
def familyTellsSpec : ChangeSpec := { name := "familyTells", fn := fun _ => fun
  | [d1, d2, d3, d4, d5] => { results := [.lit (.bool true)], args := [d1, d2, d3, d4, d5] }
  | _ => none }
def familyTellsRow : OpenClaim := { program := "ytjjadakjkkmjgaa", sum := "3d6f5db79658496474138e430ee66cd6a7d595603bfe5fd49128ec21a0f694b2", func := "bazaar/bazaarlaw13.FamilyTells", spec := "familyTells", unfollowed := true, recurses := true, apart := false }
def FamilyTellsSaid : Prop := familyTellsRow.holds Try.pinned (OpenSpec.ofChange familyTellsSpec)

/-- ITS FALSE NEIGHBOUR: 'it returns false'. Refute it at one input. -/
def familyTellsWrong : ChangeSpec := { name := "familyTells", fn := fun _ => fun
  | [d1, d2, d3, d4, d5] => { results := [.lit (.bool false)], args := [d1, d2, d3, d4, d5] }
  | _ => none }
def FamilyTellsWrongFalsely : Prop := familyTellsRow.holds Try.pinned (OpenSpec.ofChange familyTellsWrong)

/-- 'bazaarlaw13.FamilyWithin': WHATEVER THE INPUT: true; the input reads as it did. -/
def familyWithinSpec : ChangeSpec := { name := "familyWithin", fn := fun _ => fun
  | [d1, d2, d3, d4, d5] => { results := [.lit (.bool true)], args := [d1, d2, d3, d4, d5] }
  | _ => none }
def familyWithinRow : OpenClaim := { program := "ytjjadakjkkmjgaa", sum := "3d6f5db79658496474138e430ee66cd6a7d595603bfe5fd49128ec21a0f694b2", func := "bazaar/bazaarlaw13.FamilyWithin", spec := "familyWithin", unfollowed := true, recurses := true, apart := false }
def FamilyWithinSaid : Prop := familyWithinRow.holds Try.pinned (OpenSpec.ofChange familyWithinSpec)

/-- ITS FALSE NEIGHBOUR: 'it returns false'. Refute it at one input. -/
def familyWithinWrong : ChangeSpec := { name := "familyWithin", fn := fun _ => fun
  | [d1, d2, d3, d4, d5] => { results := [.lit (.bool false)], args := [d1, d2, d3, d4, d5] }
  | _ => none }
def FamilyWithinWrongFalsely : Prop := familyWithinRow.holds Try.pinned (OpenSpec.ofChange familyWithinWrong)

/-- 'bazaarlaw14.BloomTells': WHATEVER THE INPUT: true; the input reads as it did. -/
def bloomTellsSpec : ChangeSpec := { name := "bloomTells", fn := fun _ => fun
  | [d1, d2, d3, d4, d5] => { results := [.lit (.bool true)], args := [d1, d2, d3, d4, d5] }
  | _ => none }
def bloomTellsRow : OpenClaim := { program := "ytjjadakjkkmjgaa", sum := "3d6f5db79658496474138e430ee66cd6a7d595603bfe5fd49128ec21a0f694b2", func := "bazaar/bazaarlaw14.BloomTells", spec := "bloomTells", unfollowed := true, recurses := true, apart := false }
def BloomTellsSaid : Prop := bloomTellsRow.holds Try.pinned (OpenSpec.ofChange bloomTellsSpec)

/-- ITS FALSE NEIGHBOUR: 'it returns false'. Refute it at one input. -/
def bloomTellsWrong : ChangeSpec := { name := "bloomTells", fn := fun _ => fun
  | [d1, d2, d3, d4, d5] => { results := [.lit (.bool false)], args := [d1, d2, d3, d4, d5] }
  | _ => none }
def BloomTellsWrongFalsely : Prop := bloomTellsRow.holds Try.pinned (OpenSpec.ofChange bloomTellsWrong)

/-- 'bazaarlaw14.BloomHas': WHATEVER THE INPUT: true; the input reads as it did. -/
def bloomHasSpec : ChangeSpec := { name := "bloomHas", fn := fun _ => fun
  | [d1, d2, d3] => { results := [.lit (.bool true)], args := [d1, d2, d3] }
  | _ => none }
def bloomHasRow : OpenClaim := { program := "ytjjadakjkkmjgaa", sum := "3d6f5db79658496474138e430ee66cd6a7d595603bfe5fd49128ec21a0f694b2", func := "bazaar/bazaarlaw14.BloomHas", spec := "bloomHas", unfollowed := true, recurses := true, apart := false }
def BloomHasSaid : Prop := bloomHasRow.holds Try.pinned (OpenSpec.ofChange bloomHasSpec)

/-- ITS FALSE NEIGHBOUR: 'it returns false'. Refute it at one input. -/
def bloomHasWrong : ChangeSpec := { name := "bloomHas", fn := fun _ => fun
  | [d1, d2, d3] => { results := [.lit (.bool false)], args := [d1, d2, d3] }
  | _ => none }
def BloomHasWrongFalsely : Prop := bloomHasRow.holds Try.pinned (OpenSpec.ofChange bloomHasWrong)

/-- 'bazaarlaw14.BloomUnion': WHATEVER THE INPUT: true; the input reads as it did. -/
def bloomUnionSpec : ChangeSpec := { name := "bloomUnion", fn := fun _ => fun
  | [d1, d2, d3, d4] => { results := [.lit (.bool true)], args := [d1, d2, d3, d4] }
  | _ => none }
def bloomUnionRow : OpenClaim := { program := "ytjjadakjkkmjgaa", sum := "3d6f5db79658496474138e430ee66cd6a7d595603bfe5fd49128ec21a0f694b2", func := "bazaar/bazaarlaw14.BloomUnion", spec := "bloomUnion", unfollowed := true, recurses := true, apart := false }
def BloomUnionSaid : Prop := bloomUnionRow.holds Try.pinned (OpenSpec.ofChange bloomUnionSpec)

/-- ITS FALSE NEIGHBOUR: 'it returns false'. Refute it at one input. -/
def bloomUnionWrong : ChangeSpec := { name := "bloomUnion", fn := fun _ => fun
  | [d1, d2, d3, d4] => { results := [.lit (.bool false)], args := [d1, d2, d3, d4] }
  | _ => none }
def BloomUnionWrongFalsely : Prop := bloomUnionRow.holds Try.pinned (OpenSpec.ofChange bloomUnionWrong)

/-- 'bazaarlaw14.BloomOne': WHATEVER THE INPUT: true; the input reads as it did. -/
def bloomOneSpec : ChangeSpec := { name := "bloomOne", fn := fun _ => fun
  | [d1, d2, d3] => { results := [.lit (.bool true)], args := [d1, d2, d3] }
  | _ => none }
def bloomOneRow : OpenClaim := { program := "ytjjadakjkkmjgaa", sum := "3d6f5db79658496474138e430ee66cd6a7d595603bfe5fd49128ec21a0f694b2", func := "bazaar/bazaarlaw14.BloomOne", spec := "bloomOne", unfollowed := true, recurses := true, apart := false }
def BloomOneSaid : Prop := bloomOneRow.holds Try.pinned (OpenSpec.ofChange bloomOneSpec)

/-- ITS FALSE NEIGHBOUR: 'it returns false'. Refute it at one input. -/
def bloomOneWrong : ChangeSpec := { name := "bloomOne", fn := fun _ => fun
  | [d1, d2, d3] => { results := [.lit (.bool false)], args := [d1, d2, d3] }
  | _ => none }
def BloomOneWrongFalsely : Prop := bloomOneRow.holds Try.pinned (OpenSpec.ofChange bloomOneWrong)

/- THE SECOND FORM. 'bulk': how many values and letters a reading holds, each counted each time it is reached (what is shared counts as often as it is met; a slice's spare places count too). A statement '..UptoSaid' is the law's where the arguments, and the package variables that the reading takes, are together of bulk at most 1048576: NARROWER than '..Said'. Prove '..Said' where nothing that the law and all that it calls make is longer than what came in: it says more and counts as full. Else prove '..UptoSaid'. A law counts once. -/
mutual
def uptoBulk {H : Type} : DataW H → Nat
  | .lit (.string bytes) => bytes.length + 1
  | .lit _ => 1
  | .nil => 1
  | .ptr d => uptoBulk d + 1
  | .slice elems spare => uptoBulkAll elems + uptoBulkAll spare + 1
  | .agg parts => uptoBulkAll parts + 1
  | .iface _ d => uptoBulk d + 1
  | .map entries => uptoBulkEntries entries + 1
  | .held _ => 1
def uptoBulkAll {H : Type} : List (DataW H) → Nat
  | [] => 0
  | d :: r => uptoBulk d + uptoBulkAll r
def uptoBulkEntries {H : Type} : List (Lit × DataW H) → Nat
  | [] => 0
  | x :: r => uptoBulkEntry x + uptoBulkEntries r
def uptoBulkEntry {H : Type} : Lit × DataW H → Nat
  | (.string bytes, d) => bytes.length + uptoBulk d + 1
  | (_, d) => uptoBulk d + 1
 end
def uptoSmall : (H : Type) → List (DataW H) → Bool := fun _ ds => decide (uptoBulkAll ds ≤ 1048576)
def OpenSpec.upto (s : _root_.Go.ChangeSpec) : _root_.Go.OpenSpec := { _root_.Go.OpenSpec.ofChange s with cond := some uptoSmall }

/-- 'bazaarlaw13.FamilyChecks', WHERE WHAT IT READS IS OF BULK AT MOST 1048576: true; the input reads as it did. -/
def familyChecksUptoRow : OpenClaim := { program := "ytjjadakjkkmjgaa", sum := "3d6f5db79658496474138e430ee66cd6a7d595603bfe5fd49128ec21a0f694b2", func := "bazaar/bazaarlaw13.FamilyChecks", spec := "familyChecks", apart := false, narrowed := true }
def FamilyChecksUptoSaid : Prop := familyChecksUptoRow.holds Try.pinned (OpenSpec.upto familyChecksSpec)

/-- 'bazaarlaw13.FamilyAlone', WHERE WHAT IT READS IS OF BULK AT MOST 1048576: true; the input reads as it did. -/
def familyAloneUptoRow : OpenClaim := { program := "ytjjadakjkkmjgaa", sum := "3d6f5db79658496474138e430ee66cd6a7d595603bfe5fd49128ec21a0f694b2", func := "bazaar/bazaarlaw13.FamilyAlone", spec := "familyAlone", apart := false, narrowed := true }
def FamilyAloneUptoSaid : Prop := familyAloneUptoRow.holds Try.pinned (OpenSpec.upto familyAloneSpec)

/-- 'bazaarlaw13.FamilyTells', WHERE WHAT IT READS IS OF BULK AT MOST 1048576: true; the input reads as it did. -/
def familyTellsUptoRow : OpenClaim := { program := "ytjjadakjkkmjgaa", sum := "3d6f5db79658496474138e430ee66cd6a7d595603bfe5fd49128ec21a0f694b2", func := "bazaar/bazaarlaw13.FamilyTells", spec := "familyTells", unfollowed := true, recurses := true, apart := false, narrowed := true }
def FamilyTellsUptoSaid : Prop := familyTellsUptoRow.holds Try.pinned (OpenSpec.upto familyTellsSpec)

/-- 'bazaarlaw13.FamilyWithin', WHERE WHAT IT READS IS OF BULK AT MOST 1048576: true; the input reads as it did. -/
def familyWithinUptoRow : OpenClaim := { program := "ytjjadakjkkmjgaa", sum := "3d6f5db79658496474138e430ee66cd6a7d595603bfe5fd49128ec21a0f694b2", func := "bazaar/bazaarlaw13.FamilyWithin", spec := "familyWithin", unfollowed := true, recurses := true, apart := false, narrowed := true }
def FamilyWithinUptoSaid : Prop := familyWithinUptoRow.holds Try.pinned (OpenSpec.upto familyWithinSpec)

/-- 'bazaarlaw14.BloomTells', WHERE WHAT IT READS IS OF BULK AT MOST 1048576: true; the input reads as it did. -/
def bloomTellsUptoRow : OpenClaim := { program := "ytjjadakjkkmjgaa", sum := "3d6f5db79658496474138e430ee66cd6a7d595603bfe5fd49128ec21a0f694b2", func := "bazaar/bazaarlaw14.BloomTells", spec := "bloomTells", unfollowed := true, recurses := true, apart := false, narrowed := true }
def BloomTellsUptoSaid : Prop := bloomTellsUptoRow.holds Try.pinned (OpenSpec.upto bloomTellsSpec)

/-- 'bazaarlaw14.BloomHas', WHERE WHAT IT READS IS OF BULK AT MOST 1048576: true; the input reads as it did. -/
def bloomHasUptoRow : OpenClaim := { program := "ytjjadakjkkmjgaa", sum := "3d6f5db79658496474138e430ee66cd6a7d595603bfe5fd49128ec21a0f694b2", func := "bazaar/bazaarlaw14.BloomHas", spec := "bloomHas", unfollowed := true, recurses := true, apart := false, narrowed := true }
def BloomHasUptoSaid : Prop := bloomHasUptoRow.holds Try.pinned (OpenSpec.upto bloomHasSpec)

/-- 'bazaarlaw14.BloomUnion', WHERE WHAT IT READS IS OF BULK AT MOST 1048576: true; the input reads as it did. -/
def bloomUnionUptoRow : OpenClaim := { program := "ytjjadakjkkmjgaa", sum := "3d6f5db79658496474138e430ee66cd6a7d595603bfe5fd49128ec21a0f694b2", func := "bazaar/bazaarlaw14.BloomUnion", spec := "bloomUnion", unfollowed := true, recurses := true, apart := false, narrowed := true }
def BloomUnionUptoSaid : Prop := bloomUnionUptoRow.holds Try.pinned (OpenSpec.upto bloomUnionSpec)

/-- 'bazaarlaw14.BloomOne', WHERE WHAT IT READS IS OF BULK AT MOST 1048576: true; the input reads as it did. -/
def bloomOneUptoRow : OpenClaim := { program := "ytjjadakjkkmjgaa", sum := "3d6f5db79658496474138e430ee66cd6a7d595603bfe5fd49128ec21a0f694b2", func := "bazaar/bazaarlaw14.BloomOne", spec := "bloomOne", unfollowed := true, recurses := true, apart := false, narrowed := true }
def BloomOneUptoSaid : Prop := bloomOneUptoRow.holds Try.pinned (OpenSpec.upto bloomOneSpec)

end Rows
end Go.Proofs.Ytjjadakjkkmjgaa
