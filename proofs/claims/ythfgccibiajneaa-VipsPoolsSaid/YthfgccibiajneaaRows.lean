/-
  No cell of these rows narrows 'for every input' (looked for: loops, veiled, ifaces, maps, wideKeys, modest, calm, conditions, laid).
  DERIVED. THE GIVEN ROWS OF THIS SEAT. 10 by the template 'for every input the law returns true; each argument reads behind the call as it read before'; 0 by the template 'total and deterministic' (their statements: YthfgccibiajneaaTotals.lean).
  GIVEN WITH THE SEED: the statements are not yours to turn. If you find one false, say at which input.
  Laid BY PROGRAM, IN A SANDBOX (cutbox-rows.mjs): the forced cells as the released guide's own fill.sh prints them over the translation 18ea86b22dcbc2e6… (all of the seat's roots in one cut). By AI agents, Wed Nov 11 2026. No macro, syntax, notation, axiom, sorry.
-/
import Derived.Test.YthfgccibiajneaaChecked
import GoSem.Claim
import GoSem.ClaimJoined
import GoSem.ClaimMapViews
import Derived.JoinedTies
import Derived.KernelRfl
namespace Go.Proofs.Ythfgccibiajneaa
/- THE CELL 'sum', in the pinned program and in every row, IS THE sha256 OF THE DUMP (.gsa) THAT YthfgccibiajneaaProg.lean LOADS. Nothing in Lean hashes anything: it is a label: what it is worth is what the hold of that sum in a sandbox is worth. -/
noncomputable def Try.pinned : Pinned := { name := "ythfgccibiajneaa", sum := "18ea86b22dcbc2e6c6f7a19da56c1334ce68bd03b4266d6bad8db4714bef6062", checked := Try.checked }
namespace Rows
def none {H : Type} : Left H := { results := [], args := [] }

/-- 'bazaarlaw13.FamilyTells': WHATEVER THE INPUT: true; the input reads as it did. -/
def familyTellsSpec : ChangeSpec := { name := "familyTells", fn := fun _ => fun
  | [d1, d2, d3, d4, d5] => { results := [.lit (.bool true)], args := [d1, d2, d3, d4, d5] }
  | _ => none }
def familyTellsRow : OpenClaim := { program := "ythfgccibiajneaa", sum := "18ea86b22dcbc2e6c6f7a19da56c1334ce68bd03b4266d6bad8db4714bef6062", func := "bazaar/bazaarlaw13.FamilyTells", spec := "familyTells", unfollowed := true, recurses := true, plainKeys := false, apart := false }
def FamilyTellsSaid : Prop := familyTellsRow.holds Try.pinned (OpenSpec.ofChange familyTellsSpec)

/-- ITS FALSE NEIGHBOUR: 'it returns false'. Refute it at one input. -/
def familyTellsWrong : ChangeSpec := { name := "familyTells", fn := fun _ => fun
  | [d1, d2, d3, d4, d5] => { results := [.lit (.bool false)], args := [d1, d2, d3, d4, d5] }
  | _ => none }
def FamilyTellsWrongFalsely : Prop := familyTellsRow.holds Try.pinned (OpenSpec.ofChange familyTellsWrong)

/-- 'bazaarlaw18.PoolsReuse': WHATEVER THE INPUT: true; the input reads as it did. -/
def poolsReuseSpec : ChangeSpec := { name := "poolsReuse", fn := fun _ => fun
  | [d1, d2, d3] => { results := [.lit (.bool true)], args := [d1, d2, d3] }
  | _ => none }
def poolsReuseRow : OpenClaim := { program := "ythfgccibiajneaa", sum := "18ea86b22dcbc2e6c6f7a19da56c1334ce68bd03b4266d6bad8db4714bef6062", func := "bazaar/bazaarlaw18.PoolsReuse", spec := "poolsReuse", unfollowed := true, recurses := true, plainKeys := false, apart := false }
def PoolsReuseSaid : Prop := poolsReuseRow.holds Try.pinned (OpenSpec.ofChange poolsReuseSpec)

/-- ITS FALSE NEIGHBOUR: 'it returns false'. Refute it at one input. -/
def poolsReuseWrong : ChangeSpec := { name := "poolsReuse", fn := fun _ => fun
  | [d1, d2, d3] => { results := [.lit (.bool false)], args := [d1, d2, d3] }
  | _ => none }
def PoolsReuseWrongFalsely : Prop := poolsReuseRow.holds Try.pinned (OpenSpec.ofChange poolsReuseWrong)

/-- 'bazaarlaw18.PoolsChain': WHATEVER THE INPUT: true; the input reads as it did. -/
def poolsChainSpec : ChangeSpec := { name := "poolsChain", fn := fun _ => fun
  | [d1, d2] => { results := [.lit (.bool true)], args := [d1, d2] }
  | _ => none }
def poolsChainRow : OpenClaim := { program := "ythfgccibiajneaa", sum := "18ea86b22dcbc2e6c6f7a19da56c1334ce68bd03b4266d6bad8db4714bef6062", func := "bazaar/bazaarlaw18.PoolsChain", spec := "poolsChain", unfollowed := true, recurses := true, plainKeys := false, apart := false }
def PoolsChainSaid : Prop := poolsChainRow.holds Try.pinned (OpenSpec.ofChange poolsChainSpec)

/-- ITS FALSE NEIGHBOUR: 'it returns false'. Refute it at one input. -/
def poolsChainWrong : ChangeSpec := { name := "poolsChain", fn := fun _ => fun
  | [d1, d2] => { results := [.lit (.bool false)], args := [d1, d2] }
  | _ => none }
def PoolsChainWrongFalsely : Prop := poolsChainRow.holds Try.pinned (OpenSpec.ofChange poolsChainWrong)

/-- 'bazaarlaw18.PoolsServe': WHATEVER THE INPUT: true; the input reads as it did. -/
def poolsServeSpec : ChangeSpec := { name := "poolsServe", fn := fun _ => fun
  | [d1, d2] => { results := [.lit (.bool true)], args := [d1, d2] }
  | _ => none }
def poolsServeRow : OpenClaim := { program := "ythfgccibiajneaa", sum := "18ea86b22dcbc2e6c6f7a19da56c1334ce68bd03b4266d6bad8db4714bef6062", func := "bazaar/bazaarlaw18.PoolsServe", spec := "poolsServe", unfollowed := true, recurses := true, plainKeys := false, apart := false }
def PoolsServeSaid : Prop := poolsServeRow.holds Try.pinned (OpenSpec.ofChange poolsServeSpec)

/-- ITS FALSE NEIGHBOUR: 'it returns false'. Refute it at one input. -/
def poolsServeWrong : ChangeSpec := { name := "poolsServe", fn := fun _ => fun
  | [d1, d2] => { results := [.lit (.bool false)], args := [d1, d2] }
  | _ => none }
def PoolsServeWrongFalsely : Prop := poolsServeRow.holds Try.pinned (OpenSpec.ofChange poolsServeWrong)

/-- 'bazaarlaw19.VipsNumbers': WHATEVER THE INPUT: true; the input reads as it did. -/
def vipsNumbersSpec : ChangeSpec := { name := "vipsNumbers", fn := fun _ => fun
  | [d1, d2] => { results := [.lit (.bool true)], args := [d1, d2] }
  | _ => none }
def vipsNumbersRow : OpenClaim := { program := "ythfgccibiajneaa", sum := "18ea86b22dcbc2e6c6f7a19da56c1334ce68bd03b4266d6bad8db4714bef6062", func := "bazaar/bazaarlaw19.VipsNumbers", spec := "vipsNumbers", unfollowed := true, recurses := true, plainKeys := false, apart := false }
def VipsNumbersSaid : Prop := vipsNumbersRow.holds Try.pinned (OpenSpec.ofChange vipsNumbersSpec)

/-- ITS FALSE NEIGHBOUR: 'it returns false'. Refute it at one input. -/
def vipsNumbersWrong : ChangeSpec := { name := "vipsNumbers", fn := fun _ => fun
  | [d1, d2] => { results := [.lit (.bool false)], args := [d1, d2] }
  | _ => none }
def VipsNumbersWrongFalsely : Prop := vipsNumbersRow.holds Try.pinned (OpenSpec.ofChange vipsNumbersWrong)

/-- 'bazaarlaw19.VipsKinds': WHATEVER THE INPUT: true; the input reads as it did. -/
def vipsKindsSpec : ChangeSpec := { name := "vipsKinds", fn := fun _ => fun
  | [d1, d2, d3] => { results := [.lit (.bool true)], args := [d1, d2, d3] }
  | _ => none }
def vipsKindsRow : OpenClaim := { program := "ythfgccibiajneaa", sum := "18ea86b22dcbc2e6c6f7a19da56c1334ce68bd03b4266d6bad8db4714bef6062", func := "bazaar/bazaarlaw19.VipsKinds", spec := "vipsKinds", unfollowed := true, recurses := true, plainKeys := false, apart := false }
def VipsKindsSaid : Prop := vipsKindsRow.holds Try.pinned (OpenSpec.ofChange vipsKindsSpec)

/-- ITS FALSE NEIGHBOUR: 'it returns false'. Refute it at one input. -/
def vipsKindsWrong : ChangeSpec := { name := "vipsKinds", fn := fun _ => fun
  | [d1, d2, d3] => { results := [.lit (.bool false)], args := [d1, d2, d3] }
  | _ => none }
def VipsKindsWrongFalsely : Prop := vipsKindsRow.holds Try.pinned (OpenSpec.ofChange vipsKindsWrong)

/-- 'bazaarlaw18.PoolsActs': WHATEVER THE INPUT: true; the input reads as it did. -/
def poolsActsSpec : ChangeSpec := { name := "poolsActs", fn := fun _ => fun
  | [d1, d2, d3] => { results := [.lit (.bool true)], args := [d1, d2, d3] }
  | _ => none }
def poolsActsRow : OpenClaim := { program := "ythfgccibiajneaa", sum := "18ea86b22dcbc2e6c6f7a19da56c1334ce68bd03b4266d6bad8db4714bef6062", func := "bazaar/bazaarlaw18.PoolsActs", spec := "poolsActs", unfollowed := true, recurses := true, plainKeys := false, apart := false }
def PoolsActsSaid : Prop := poolsActsRow.holds Try.pinned (OpenSpec.ofChange poolsActsSpec)

/-- ITS FALSE NEIGHBOUR: 'it returns false'. Refute it at one input. -/
def poolsActsWrong : ChangeSpec := { name := "poolsActs", fn := fun _ => fun
  | [d1, d2, d3] => { results := [.lit (.bool false)], args := [d1, d2, d3] }
  | _ => none }
def PoolsActsWrongFalsely : Prop := poolsActsRow.holds Try.pinned (OpenSpec.ofChange poolsActsWrong)

/-- 'bazaarlaw18.PoolsRefs': WHATEVER THE INPUT: true; the input reads as it did. -/
def poolsRefsSpec : ChangeSpec := { name := "poolsRefs", fn := fun _ => fun
  | [d1, d2] => { results := [.lit (.bool true)], args := [d1, d2] }
  | _ => none }
def poolsRefsRow : OpenClaim := { program := "ythfgccibiajneaa", sum := "18ea86b22dcbc2e6c6f7a19da56c1334ce68bd03b4266d6bad8db4714bef6062", func := "bazaar/bazaarlaw18.PoolsRefs", spec := "poolsRefs", unfollowed := true, recurses := true, plainKeys := false, apart := false }
def PoolsRefsSaid : Prop := poolsRefsRow.holds Try.pinned (OpenSpec.ofChange poolsRefsSpec)

/-- ITS FALSE NEIGHBOUR: 'it returns false'. Refute it at one input. -/
def poolsRefsWrong : ChangeSpec := { name := "poolsRefs", fn := fun _ => fun
  | [d1, d2] => { results := [.lit (.bool false)], args := [d1, d2] }
  | _ => none }
def PoolsRefsWrongFalsely : Prop := poolsRefsRow.holds Try.pinned (OpenSpec.ofChange poolsRefsWrong)

/-- 'bazaarlaw19.VipsActs': WHATEVER THE INPUT: true; the input reads as it did. -/
def vipsActsSpec : ChangeSpec := { name := "vipsActs", fn := fun _ => fun
  | [d1, d2, d3, d4] => { results := [.lit (.bool true)], args := [d1, d2, d3, d4] }
  | _ => none }
def vipsActsRow : OpenClaim := { program := "ythfgccibiajneaa", sum := "18ea86b22dcbc2e6c6f7a19da56c1334ce68bd03b4266d6bad8db4714bef6062", func := "bazaar/bazaarlaw19.VipsActs", spec := "vipsActs", unfollowed := true, recurses := true, plainKeys := false, apart := false }
def VipsActsSaid : Prop := vipsActsRow.holds Try.pinned (OpenSpec.ofChange vipsActsSpec)

/-- ITS FALSE NEIGHBOUR: 'it returns false'. Refute it at one input. -/
def vipsActsWrong : ChangeSpec := { name := "vipsActs", fn := fun _ => fun
  | [d1, d2, d3, d4] => { results := [.lit (.bool false)], args := [d1, d2, d3, d4] }
  | _ => none }
def VipsActsWrongFalsely : Prop := vipsActsRow.holds Try.pinned (OpenSpec.ofChange vipsActsWrong)

/-- 'bazaarlaw19.VipsPools': WHATEVER THE INPUT: true; the input reads as it did. -/
def vipsPoolsSpec : ChangeSpec := { name := "vipsPools", fn := fun _ => fun
  | [d1, d2, d3] => { results := [.lit (.bool true)], args := [d1, d2, d3] }
  | _ => none }
def vipsPoolsRow : OpenClaim := { program := "ythfgccibiajneaa", sum := "18ea86b22dcbc2e6c6f7a19da56c1334ce68bd03b4266d6bad8db4714bef6062", func := "bazaar/bazaarlaw19.VipsPools", spec := "vipsPools", unfollowed := true, recurses := true, plainKeys := false, apart := false }
def VipsPoolsSaid : Prop := vipsPoolsRow.holds Try.pinned (OpenSpec.ofChange vipsPoolsSpec)

/-- ITS FALSE NEIGHBOUR: 'it returns false'. Refute it at one input. -/
def vipsPoolsWrong : ChangeSpec := { name := "vipsPools", fn := fun _ => fun
  | [d1, d2, d3] => { results := [.lit (.bool false)], args := [d1, d2, d3] }
  | _ => none }
def VipsPoolsWrongFalsely : Prop := vipsPoolsRow.holds Try.pinned (OpenSpec.ofChange vipsPoolsWrong)

/- THE SECOND FORM. 'bulk': how many values and letters a reading holds, each counted each time it is reached (what is shared counts as often as it is met; a slice's spare places count too). A statement '..UptoSaid' is the law's where the arguments, and the package variables that the reading takes, are together of bulk at most 1048576: NARROWER than '..Said'. Prove '..Said' where nothing that the law and all that it calls make is longer than what came in: it says more and counts as full. Else prove '..UptoSaid'. A law counts once. -/
mutual
def uptoBulk {H : Type} : DataW H → Nat
  | .lit (.string bytes) => bytes.length + 1
  | .lit _ => 1
  | .nil => 1
  | .ptr d => uptoBulk d + 1
  | .slice elems spare => uptoBulkAll elems + uptoBulkAll spare + 1
  | .agg parts => uptoBulkAll parts + 1
  | .iface _ d => uptoBulk d + 1
  | .map entries => uptoBulkEntries entries + 1
  | .held _ => 1
def uptoBulkAll {H : Type} : List (DataW H) → Nat
  | [] => 0
  | d :: r => uptoBulk d + uptoBulkAll r
def uptoBulkEntries {H : Type} : List (Lit × DataW H) → Nat
  | [] => 0
  | x :: r => uptoBulkEntry x + uptoBulkEntries r
def uptoBulkEntry {H : Type} : Lit × DataW H → Nat
  | (.string bytes, d) => bytes.length + uptoBulk d + 1
  | (_, d) => uptoBulk d + 1
 end
def uptoSmall : (H : Type) → List (DataW H) → Bool := fun _ ds => decide (uptoBulkAll ds ≤ 1048576)
def OpenSpec.upto (s : _root_.Go.ChangeSpec) : _root_.Go.OpenSpec := { _root_.Go.OpenSpec.ofChange s with cond := some uptoSmall }

/-- 'bazaarlaw13.FamilyTells', WHERE WHAT IT READS IS OF BULK AT MOST 1048576: true; the input reads as it did. -/
def familyTellsUptoRow : OpenClaim := { program := "ythfgccibiajneaa", sum := "18ea86b22dcbc2e6c6f7a19da56c1334ce68bd03b4266d6bad8db4714bef6062", func := "bazaar/bazaarlaw13.FamilyTells", spec := "familyTells", unfollowed := true, recurses := true, plainKeys := false, apart := false, narrowed := true }
def FamilyTellsUptoSaid : Prop := familyTellsUptoRow.holds Try.pinned (OpenSpec.upto familyTellsSpec)

/-- 'bazaarlaw18.PoolsReuse', WHERE WHAT IT READS IS OF BULK AT MOST 1048576: true; the input reads as it did. -/
def poolsReuseUptoRow : OpenClaim := { program := "ythfgccibiajneaa", sum := "18ea86b22dcbc2e6c6f7a19da56c1334ce68bd03b4266d6bad8db4714bef6062", func := "bazaar/bazaarlaw18.PoolsReuse", spec := "poolsReuse", unfollowed := true, recurses := true, plainKeys := false, apart := false, narrowed := true }
def PoolsReuseUptoSaid : Prop := poolsReuseUptoRow.holds Try.pinned (OpenSpec.upto poolsReuseSpec)

/-- 'bazaarlaw18.PoolsChain', WHERE WHAT IT READS IS OF BULK AT MOST 1048576: true; the input reads as it did. -/
def poolsChainUptoRow : OpenClaim := { program := "ythfgccibiajneaa", sum := "18ea86b22dcbc2e6c6f7a19da56c1334ce68bd03b4266d6bad8db4714bef6062", func := "bazaar/bazaarlaw18.PoolsChain", spec := "poolsChain", unfollowed := true, recurses := true, plainKeys := false, apart := false, narrowed := true }
def PoolsChainUptoSaid : Prop := poolsChainUptoRow.holds Try.pinned (OpenSpec.upto poolsChainSpec)

/-- 'bazaarlaw18.PoolsServe', WHERE WHAT IT READS IS OF BULK AT MOST 1048576: true; the input reads as it did. -/
def poolsServeUptoRow : OpenClaim := { program := "ythfgccibiajneaa", sum := "18ea86b22dcbc2e6c6f7a19da56c1334ce68bd03b4266d6bad8db4714bef6062", func := "bazaar/bazaarlaw18.PoolsServe", spec := "poolsServe", unfollowed := true, recurses := true, plainKeys := false, apart := false, narrowed := true }
def PoolsServeUptoSaid : Prop := poolsServeUptoRow.holds Try.pinned (OpenSpec.upto poolsServeSpec)

/-- 'bazaarlaw19.VipsNumbers', WHERE WHAT IT READS IS OF BULK AT MOST 1048576: true; the input reads as it did. -/
def vipsNumbersUptoRow : OpenClaim := { program := "ythfgccibiajneaa", sum := "18ea86b22dcbc2e6c6f7a19da56c1334ce68bd03b4266d6bad8db4714bef6062", func := "bazaar/bazaarlaw19.VipsNumbers", spec := "vipsNumbers", unfollowed := true, recurses := true, plainKeys := false, apart := false, narrowed := true }
def VipsNumbersUptoSaid : Prop := vipsNumbersUptoRow.holds Try.pinned (OpenSpec.upto vipsNumbersSpec)

/-- 'bazaarlaw19.VipsKinds', WHERE WHAT IT READS IS OF BULK AT MOST 1048576: true; the input reads as it did. -/
def vipsKindsUptoRow : OpenClaim := { program := "ythfgccibiajneaa", sum := "18ea86b22dcbc2e6c6f7a19da56c1334ce68bd03b4266d6bad8db4714bef6062", func := "bazaar/bazaarlaw19.VipsKinds", spec := "vipsKinds", unfollowed := true, recurses := true, plainKeys := false, apart := false, narrowed := true }
def VipsKindsUptoSaid : Prop := vipsKindsUptoRow.holds Try.pinned (OpenSpec.upto vipsKindsSpec)

/-- 'bazaarlaw18.PoolsActs', WHERE WHAT IT READS IS OF BULK AT MOST 1048576: true; the input reads as it did. -/
def poolsActsUptoRow : OpenClaim := { program := "ythfgccibiajneaa", sum := "18ea86b22dcbc2e6c6f7a19da56c1334ce68bd03b4266d6bad8db4714bef6062", func := "bazaar/bazaarlaw18.PoolsActs", spec := "poolsActs", unfollowed := true, recurses := true, plainKeys := false, apart := false, narrowed := true }
def PoolsActsUptoSaid : Prop := poolsActsUptoRow.holds Try.pinned (OpenSpec.upto poolsActsSpec)

/-- 'bazaarlaw18.PoolsRefs', WHERE WHAT IT READS IS OF BULK AT MOST 1048576: true; the input reads as it did. -/
def poolsRefsUptoRow : OpenClaim := { program := "ythfgccibiajneaa", sum := "18ea86b22dcbc2e6c6f7a19da56c1334ce68bd03b4266d6bad8db4714bef6062", func := "bazaar/bazaarlaw18.PoolsRefs", spec := "poolsRefs", unfollowed := true, recurses := true, plainKeys := false, apart := false, narrowed := true }
def PoolsRefsUptoSaid : Prop := poolsRefsUptoRow.holds Try.pinned (OpenSpec.upto poolsRefsSpec)

/-- 'bazaarlaw19.VipsActs', WHERE WHAT IT READS IS OF BULK AT MOST 1048576: true; the input reads as it did. -/
def vipsActsUptoRow : OpenClaim := { program := "ythfgccibiajneaa", sum := "18ea86b22dcbc2e6c6f7a19da56c1334ce68bd03b4266d6bad8db4714bef6062", func := "bazaar/bazaarlaw19.VipsActs", spec := "vipsActs", unfollowed := true, recurses := true, plainKeys := false, apart := false, narrowed := true }
def VipsActsUptoSaid : Prop := vipsActsUptoRow.holds Try.pinned (OpenSpec.upto vipsActsSpec)

/-- 'bazaarlaw19.VipsPools', WHERE WHAT IT READS IS OF BULK AT MOST 1048576: true; the input reads as it did. -/
def vipsPoolsUptoRow : OpenClaim := { program := "ythfgccibiajneaa", sum := "18ea86b22dcbc2e6c6f7a19da56c1334ce68bd03b4266d6bad8db4714bef6062", func := "bazaar/bazaarlaw19.VipsPools", spec := "vipsPools", unfollowed := true, recurses := true, plainKeys := false, apart := false, narrowed := true }
def VipsPoolsUptoSaid : Prop := vipsPoolsUptoRow.holds Try.pinned (OpenSpec.upto vipsPoolsSpec)

end Rows
end Go.Proofs.Ythfgccibiajneaa
