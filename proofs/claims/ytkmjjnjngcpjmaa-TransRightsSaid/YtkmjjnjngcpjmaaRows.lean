/-
  No cell of these rows narrows 'for every input' (looked for: loops, veiled, ifaces, maps, wideKeys, modest, calm, conditions, laid).
  DERIVED. THE GIVEN ROWS OF THIS SEAT. 5 by the template 'for every input the law returns true; each argument reads behind the call as it read before'; 0 by the template 'total and deterministic' (their statements: YtkmjjnjngcpjmaaTotals.lean).
  GIVEN WITH THE SEED: the statements are not yours to turn. If you find one false, say at which input.
  Laid BY PROGRAM, IN A SANDBOX (cutbox-rows.mjs): the forced cells as the released guide's own fill.sh prints them over the translation d28002af4dc7fd57… (all of the seat's roots in one cut). By AI agents, Wed Nov 11 2026. No macro, syntax, notation, axiom, sorry.
-/
import Derived.Test.YtkmjjnjngcpjmaaChecked
import GoSem.Claim
import GoSem.ClaimJoined
import GoSem.ClaimMapViews
import Derived.JoinedTies
import Derived.KernelRfl
namespace Go.Proofs.Ytkmjjnjngcpjmaa
/- THE CELL 'sum', in the pinned program and in every row, IS THE sha256 OF THE DUMP (.gsa) THAT YtkmjjnjngcpjmaaProg.lean LOADS. Nothing in Lean hashes anything: it is a label: what it is worth is what the hold of that sum in a sandbox is worth. -/
noncomputable def Try.pinned : Pinned := { name := "ytkmjjnjngcpjmaa", sum := "d28002af4dc7fd571aaead6bd71bda2c7879d092f80cd6a276b9c7017361ffa9", checked := Try.checked }
namespace Rows
def none {H : Type} : Left H := { results := [], args := [] }

/-- 'presagelaw10.TransTwice': WHATEVER THE INPUT: true; the input reads as it did. -/
def transTwiceSpec : ChangeSpec := { name := "transTwice", fn := fun _ => fun
  | [d1, d2, d3] => { results := [.lit (.bool true)], args := [d1, d2, d3] }
  | _ => none }
def transTwiceRow : OpenClaim := { program := "ytkmjjnjngcpjmaa", sum := "d28002af4dc7fd571aaead6bd71bda2c7879d092f80cd6a276b9c7017361ffa9", func := "presage/presagelaw10.TransTwice", spec := "transTwice", unfollowed := true, recurses := true, plainKeys := false, apart := false }
def TransTwiceSaid : Prop := transTwiceRow.holds Try.pinned (OpenSpec.ofChange transTwiceSpec)

/-- ITS FALSE NEIGHBOUR: 'it returns false'. Refute it at one input. -/
def transTwiceWrong : ChangeSpec := { name := "transTwice", fn := fun _ => fun
  | [d1, d2, d3] => { results := [.lit (.bool false)], args := [d1, d2, d3] }
  | _ => none }
def TransTwiceWrongFalsely : Prop := transTwiceRow.holds Try.pinned (OpenSpec.ofChange transTwiceWrong)

/-- 'presagelaw10.TransEdges': WHATEVER THE INPUT: true; the input reads as it did. -/
def transEdgesSpec : ChangeSpec := { name := "transEdges", fn := fun _ => fun
  | [d] => { results := [.lit (.bool true)], args := [d] }
  | _ => none }
def transEdgesRow : OpenClaim := { program := "ytkmjjnjngcpjmaa", sum := "d28002af4dc7fd571aaead6bd71bda2c7879d092f80cd6a276b9c7017361ffa9", func := "presage/presagelaw10.TransEdges", spec := "transEdges", unfollowed := true, recurses := true, plainKeys := false, apart := false }
def TransEdgesSaid : Prop := transEdgesRow.holds Try.pinned (OpenSpec.ofChange transEdgesSpec)

/-- ITS FALSE NEIGHBOUR: 'it returns false'. Refute it at one input. -/
def transEdgesWrong : ChangeSpec := { name := "transEdges", fn := fun _ => fun
  | [d] => { results := [.lit (.bool false)], args := [d] }
  | _ => none }
def TransEdgesWrongFalsely : Prop := transEdgesRow.holds Try.pinned (OpenSpec.ofChange transEdgesWrong)

/-- 'presagelaw10.TransReached': WHATEVER THE INPUT: true; the input reads as it did. -/
def transReachedSpec : ChangeSpec := { name := "transReached", fn := fun _ => fun
  | [d] => { results := [.lit (.bool true)], args := [d] }
  | _ => none }
def transReachedRow : OpenClaim := { program := "ytkmjjnjngcpjmaa", sum := "d28002af4dc7fd571aaead6bd71bda2c7879d092f80cd6a276b9c7017361ffa9", func := "presage/presagelaw10.TransReached", spec := "transReached", unfollowed := true, recurses := true, plainKeys := false, apart := false }
def TransReachedSaid : Prop := transReachedRow.holds Try.pinned (OpenSpec.ofChange transReachedSpec)

/-- ITS FALSE NEIGHBOUR: 'it returns false'. Refute it at one input. -/
def transReachedWrong : ChangeSpec := { name := "transReached", fn := fun _ => fun
  | [d] => { results := [.lit (.bool false)], args := [d] }
  | _ => none }
def TransReachedWrongFalsely : Prop := transReachedRow.holds Try.pinned (OpenSpec.ofChange transReachedWrong)

/-- 'presagelaw10.TransDirect': WHATEVER THE INPUT: true; the input reads as it did. -/
def transDirectSpec : ChangeSpec := { name := "transDirect", fn := fun _ => fun
  | [d] => { results := [.lit (.bool true)], args := [d] }
  | _ => none }
def transDirectRow : OpenClaim := { program := "ytkmjjnjngcpjmaa", sum := "d28002af4dc7fd571aaead6bd71bda2c7879d092f80cd6a276b9c7017361ffa9", func := "presage/presagelaw10.TransDirect", spec := "transDirect", unfollowed := true, recurses := true, plainKeys := false, apart := false }
def TransDirectSaid : Prop := transDirectRow.holds Try.pinned (OpenSpec.ofChange transDirectSpec)

/-- ITS FALSE NEIGHBOUR: 'it returns false'. Refute it at one input. -/
def transDirectWrong : ChangeSpec := { name := "transDirect", fn := fun _ => fun
  | [d] => { results := [.lit (.bool false)], args := [d] }
  | _ => none }
def TransDirectWrongFalsely : Prop := transDirectRow.holds Try.pinned (OpenSpec.ofChange transDirectWrong)

/-- 'presagelaw10.TransRights': WHATEVER THE INPUT: true; the input reads as it did. -/
def transRightsSpec : ChangeSpec := { name := "transRights", fn := fun _ => fun
  | [d1, d2] => { results := [.lit (.bool true)], args := [d1, d2] }
  | _ => none }
def transRightsRow : OpenClaim := { program := "ytkmjjnjngcpjmaa", sum := "d28002af4dc7fd571aaead6bd71bda2c7879d092f80cd6a276b9c7017361ffa9", func := "presage/presagelaw10.TransRights", spec := "transRights", unfollowed := true, recurses := true, plainKeys := false, apart := false }
def TransRightsSaid : Prop := transRightsRow.holds Try.pinned (OpenSpec.ofChange transRightsSpec)

/-- ITS FALSE NEIGHBOUR: 'it returns false'. Refute it at one input. -/
def transRightsWrong : ChangeSpec := { name := "transRights", fn := fun _ => fun
  | [d1, d2] => { results := [.lit (.bool false)], args := [d1, d2] }
  | _ => none }
def TransRightsWrongFalsely : Prop := transRightsRow.holds Try.pinned (OpenSpec.ofChange transRightsWrong)

/- THE SECOND FORM. 'bulk': how many values and letters a reading holds, each counted each time it is reached (what is shared counts as often as it is met; a slice's spare places count too). A statement '..UptoSaid' is the law's where the arguments, and the package variables that the reading takes, are together of bulk at most 1048576: NARROWER than '..Said'. Prove '..Said' where nothing that the law and all that it calls make is longer than what came in: it says more and counts as full. Else prove '..UptoSaid'. A law counts once. -/
mutual
def uptoBulk {H : Type} : DataW H → Nat
  | .lit (.string bytes) => bytes.length + 1
  | .lit _ => 1
  | .nil => 1
  | .ptr d => uptoBulk d + 1
  | .slice elems spare => uptoBulkAll elems + uptoBulkAll spare + 1
  | .agg parts => uptoBulkAll parts + 1
  | .iface _ d => uptoBulk d + 1
  | .map entries => uptoBulkEntries entries + 1
  | .held _ => 1
def uptoBulkAll {H : Type} : List (DataW H) → Nat
  | [] => 0
  | d :: r => uptoBulk d + uptoBulkAll r
def uptoBulkEntries {H : Type} : List (Lit × DataW H) → Nat
  | [] => 0
  | x :: r => uptoBulkEntry x + uptoBulkEntries r
def uptoBulkEntry {H : Type} : Lit × DataW H → Nat
  | (.string bytes, d) => bytes.length + uptoBulk d + 1
  | (_, d) => uptoBulk d + 1
 end
def uptoSmall : (H : Type) → List (DataW H) → Bool := fun _ ds => decide (uptoBulkAll ds ≤ 1048576)
def OpenSpec.upto (s : _root_.Go.ChangeSpec) : _root_.Go.OpenSpec := { _root_.Go.OpenSpec.ofChange s with cond := some uptoSmall }

/-- 'presagelaw10.TransTwice', WHERE WHAT IT READS IS OF BULK AT MOST 1048576: true; the input reads as it did. -/
def transTwiceUptoRow : OpenClaim := { program := "ytkmjjnjngcpjmaa", sum := "d28002af4dc7fd571aaead6bd71bda2c7879d092f80cd6a276b9c7017361ffa9", func := "presage/presagelaw10.TransTwice", spec := "transTwice", unfollowed := true, recurses := true, plainKeys := false, apart := false, narrowed := true }
def TransTwiceUptoSaid : Prop := transTwiceUptoRow.holds Try.pinned (OpenSpec.upto transTwiceSpec)

/-- 'presagelaw10.TransEdges', WHERE WHAT IT READS IS OF BULK AT MOST 1048576: true; the input reads as it did. -/
def transEdgesUptoRow : OpenClaim := { program := "ytkmjjnjngcpjmaa", sum := "d28002af4dc7fd571aaead6bd71bda2c7879d092f80cd6a276b9c7017361ffa9", func := "presage/presagelaw10.TransEdges", spec := "transEdges", unfollowed := true, recurses := true, plainKeys := false, apart := false, narrowed := true }
def TransEdgesUptoSaid : Prop := transEdgesUptoRow.holds Try.pinned (OpenSpec.upto transEdgesSpec)

/-- 'presagelaw10.TransReached', WHERE WHAT IT READS IS OF BULK AT MOST 1048576: true; the input reads as it did. -/
def transReachedUptoRow : OpenClaim := { program := "ytkmjjnjngcpjmaa", sum := "d28002af4dc7fd571aaead6bd71bda2c7879d092f80cd6a276b9c7017361ffa9", func := "presage/presagelaw10.TransReached", spec := "transReached", unfollowed := true, recurses := true, plainKeys := false, apart := false, narrowed := true }
def TransReachedUptoSaid : Prop := transReachedUptoRow.holds Try.pinned (OpenSpec.upto transReachedSpec)

/-- 'presagelaw10.TransDirect', WHERE WHAT IT READS IS OF BULK AT MOST 1048576: true; the input reads as it did. -/
def transDirectUptoRow : OpenClaim := { program := "ytkmjjnjngcpjmaa", sum := "d28002af4dc7fd571aaead6bd71bda2c7879d092f80cd6a276b9c7017361ffa9", func := "presage/presagelaw10.TransDirect", spec := "transDirect", unfollowed := true, recurses := true, plainKeys := false, apart := false, narrowed := true }
def TransDirectUptoSaid : Prop := transDirectUptoRow.holds Try.pinned (OpenSpec.upto transDirectSpec)

/-- 'presagelaw10.TransRights', WHERE WHAT IT READS IS OF BULK AT MOST 1048576: true; the input reads as it did. -/
def transRightsUptoRow : OpenClaim := { program := "ytkmjjnjngcpjmaa", sum := "d28002af4dc7fd571aaead6bd71bda2c7879d092f80cd6a276b9c7017361ffa9", func := "presage/presagelaw10.TransRights", spec := "transRights", unfollowed := true, recurses := true, plainKeys := false, apart := false, narrowed := true }
def TransRightsUptoSaid : Prop := transRightsUptoRow.holds Try.pinned (OpenSpec.upto transRightsSpec)

end Rows
end Go.Proofs.Ytkmjjnjngcpjmaa
