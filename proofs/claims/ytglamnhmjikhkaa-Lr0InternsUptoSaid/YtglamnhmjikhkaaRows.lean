/-
  No cell of these rows narrows 'for every input' (looked for: loops, veiled, ifaces, maps, wideKeys, modest, calm, conditions, laid).
  DERIVED. THE GIVEN ROWS OF THIS SEAT. 6 by the template 'for every input the law returns true; each argument reads behind the call as it read before'; 0 by the template 'total and deterministic' (their statements: YtglamnhmjikhkaaTotals.lean).
  GIVEN WITH THE SEED: the statements are not yours to turn. If you find one false, say at which input.
  Laid BY PROGRAM, IN A SANDBOX (cutbox-rows.mjs): the forced cells as the released guide's own fill.sh prints them over the translation 990144bfb3b044cb… (all of the seat's roots in one cut). By AI agents, Wed Nov 11 2026. No macro, syntax, notation, axiom, sorry.
-/
import Derived.Test.YtglamnhmjikhkaaChecked
import GoSem.Claim
import GoSem.ClaimJoined
import GoSem.ClaimMapViews
import Derived.JoinedTies
import Derived.KernelRfl
namespace Go.Proofs.Ytglamnhmjikhkaa
/- THE CELL 'sum', in the pinned program and in every row, IS THE sha256 OF THE DUMP (.gsa) THAT YtglamnhmjikhkaaProg.lean LOADS. Nothing in Lean hashes anything: it is a label: what it is worth is what the hold of that sum in a sandbox is worth. -/
noncomputable def Try.pinned : Pinned := { name := "ytglamnhmjikhkaa", sum := "990144bfb3b044cb821340a35b23797104ca0ecf89bd64e4b0bb1a11a9dd4a9e", checked := Try.checked }
namespace Rows
def none {H : Type} : Left H := { results := [], args := [] }

/-- 'presagelaw09.Lr0Builds': WHATEVER THE INPUT: true; the input reads as it did. -/
def lr0BuildsSpec : ChangeSpec := { name := "lr0Builds", fn := fun _ => fun
  | [d] => { results := [.lit (.bool true)], args := [d] }
  | _ => none }
def lr0BuildsRow : OpenClaim := { program := "ytglamnhmjikhkaa", sum := "990144bfb3b044cb821340a35b23797104ca0ecf89bd64e4b0bb1a11a9dd4a9e", func := "presage/presagelaw09.Lr0Builds", spec := "lr0Builds", unfollowed := true, recurses := true, apart := false }
def Lr0BuildsSaid : Prop := lr0BuildsRow.holds Try.pinned (OpenSpec.ofChange lr0BuildsSpec)

/-- ITS FALSE NEIGHBOUR: 'it returns false'. Refute it at one input. -/
def lr0BuildsWrong : ChangeSpec := { name := "lr0Builds", fn := fun _ => fun
  | [d] => { results := [.lit (.bool false)], args := [d] }
  | _ => none }
def Lr0BuildsWrongFalsely : Prop := lr0BuildsRow.holds Try.pinned (OpenSpec.ofChange lr0BuildsWrong)

/-- 'presagelaw09.Lr0Closures': WHATEVER THE INPUT: true; the input reads as it did. -/
def lr0ClosuresSpec : ChangeSpec := { name := "lr0Closures", fn := fun _ => fun
  | [d1, d2, d3] => { results := [.lit (.bool true)], args := [d1, d2, d3] }
  | _ => none }
def lr0ClosuresRow : OpenClaim := { program := "ytglamnhmjikhkaa", sum := "990144bfb3b044cb821340a35b23797104ca0ecf89bd64e4b0bb1a11a9dd4a9e", func := "presage/presagelaw09.Lr0Closures", spec := "lr0Closures", unfollowed := true, recurses := true, apart := false }
def Lr0ClosuresSaid : Prop := lr0ClosuresRow.holds Try.pinned (OpenSpec.ofChange lr0ClosuresSpec)

/-- ITS FALSE NEIGHBOUR: 'it returns false'. Refute it at one input. -/
def lr0ClosuresWrong : ChangeSpec := { name := "lr0Closures", fn := fun _ => fun
  | [d1, d2, d3] => { results := [.lit (.bool false)], args := [d1, d2, d3] }
  | _ => none }
def Lr0ClosuresWrongFalsely : Prop := lr0ClosuresRow.holds Try.pinned (OpenSpec.ofChange lr0ClosuresWrong)

/-- 'presagelaw09.Lr0Interns': WHATEVER THE INPUT: true; the input reads as it did. -/
def lr0InternsSpec : ChangeSpec := { name := "lr0Interns", fn := fun _ => fun
  | [d] => { results := [.lit (.bool true)], args := [d] }
  | _ => none }
def lr0InternsRow : OpenClaim := { program := "ytglamnhmjikhkaa", sum := "990144bfb3b044cb821340a35b23797104ca0ecf89bd64e4b0bb1a11a9dd4a9e", func := "presage/presagelaw09.Lr0Interns", spec := "lr0Interns", unfollowed := true, recurses := true, apart := false }
def Lr0InternsSaid : Prop := lr0InternsRow.holds Try.pinned (OpenSpec.ofChange lr0InternsSpec)

/-- ITS FALSE NEIGHBOUR: 'it returns false'. Refute it at one input. -/
def lr0InternsWrong : ChangeSpec := { name := "lr0Interns", fn := fun _ => fun
  | [d] => { results := [.lit (.bool false)], args := [d] }
  | _ => none }
def Lr0InternsWrongFalsely : Prop := lr0InternsRow.holds Try.pinned (OpenSpec.ofChange lr0InternsWrong)

/-- 'presagelaw09.Lr0Edges': WHATEVER THE INPUT: true; the input reads as it did. -/
def lr0EdgesSpec : ChangeSpec := { name := "lr0Edges", fn := fun _ => fun
  | [d1, d2] => { results := [.lit (.bool true)], args := [d1, d2] }
  | _ => none }
def lr0EdgesRow : OpenClaim := { program := "ytglamnhmjikhkaa", sum := "990144bfb3b044cb821340a35b23797104ca0ecf89bd64e4b0bb1a11a9dd4a9e", func := "presage/presagelaw09.Lr0Edges", spec := "lr0Edges", unfollowed := true, recurses := true, apart := false }
def Lr0EdgesSaid : Prop := lr0EdgesRow.holds Try.pinned (OpenSpec.ofChange lr0EdgesSpec)

/-- ITS FALSE NEIGHBOUR: 'it returns false'. Refute it at one input. -/
def lr0EdgesWrong : ChangeSpec := { name := "lr0Edges", fn := fun _ => fun
  | [d1, d2] => { results := [.lit (.bool false)], args := [d1, d2] }
  | _ => none }
def Lr0EdgesWrongFalsely : Prop := lr0EdgesRow.holds Try.pinned (OpenSpec.ofChange lr0EdgesWrong)

/-- 'presagelaw09.Lr0Again': WHATEVER THE INPUT: true; the input reads as it did. -/
def lr0AgainSpec : ChangeSpec := { name := "lr0Again", fn := fun _ => fun
  | [d1, d2, d3] => { results := [.lit (.bool true)], args := [d1, d2, d3] }
  | _ => none }
def lr0AgainRow : OpenClaim := { program := "ytglamnhmjikhkaa", sum := "990144bfb3b044cb821340a35b23797104ca0ecf89bd64e4b0bb1a11a9dd4a9e", func := "presage/presagelaw09.Lr0Again", spec := "lr0Again", unfollowed := true, recurses := true, apart := false }
def Lr0AgainSaid : Prop := lr0AgainRow.holds Try.pinned (OpenSpec.ofChange lr0AgainSpec)

/-- ITS FALSE NEIGHBOUR: 'it returns false'. Refute it at one input. -/
def lr0AgainWrong : ChangeSpec := { name := "lr0Again", fn := fun _ => fun
  | [d1, d2, d3] => { results := [.lit (.bool false)], args := [d1, d2, d3] }
  | _ => none }
def Lr0AgainWrongFalsely : Prop := lr0AgainRow.holds Try.pinned (OpenSpec.ofChange lr0AgainWrong)

/-- 'presagelaw09.Lr0Sums': WHATEVER THE INPUT: true; the input reads as it did. -/
def lr0SumsSpec : ChangeSpec := { name := "lr0Sums", fn := fun _ => fun
  | [d1, d2, d3] => { results := [.lit (.bool true)], args := [d1, d2, d3] }
  | _ => none }
def lr0SumsRow : OpenClaim := { program := "ytglamnhmjikhkaa", sum := "990144bfb3b044cb821340a35b23797104ca0ecf89bd64e4b0bb1a11a9dd4a9e", func := "presage/presagelaw09.Lr0Sums", spec := "lr0Sums", unfollowed := true, recurses := true, apart := false }
def Lr0SumsSaid : Prop := lr0SumsRow.holds Try.pinned (OpenSpec.ofChange lr0SumsSpec)

/-- ITS FALSE NEIGHBOUR: 'it returns false'. Refute it at one input. -/
def lr0SumsWrong : ChangeSpec := { name := "lr0Sums", fn := fun _ => fun
  | [d1, d2, d3] => { results := [.lit (.bool false)], args := [d1, d2, d3] }
  | _ => none }
def Lr0SumsWrongFalsely : Prop := lr0SumsRow.holds Try.pinned (OpenSpec.ofChange lr0SumsWrong)

/- THE SECOND FORM. 'bulk': how many values and letters a reading holds, each counted each time it is reached (what is shared counts as often as it is met; a slice's spare places count too). A statement '..UptoSaid' is the law's where the arguments, and the package variables that the reading takes, are together of bulk at most 1048576: NARROWER than '..Said'. Prove '..Said' where nothing that the law and all that it calls make is longer than what came in: it says more and counts as full. Else prove '..UptoSaid'. A law counts once. -/
mutual
def uptoBulk {H : Type} : DataW H → Nat
  | .lit (.string bytes) => bytes.length + 1
  | .lit _ => 1
  | .nil => 1
  | .ptr d => uptoBulk d + 1
  | .slice elems spare => uptoBulkAll elems + uptoBulkAll spare + 1
  | .agg parts => uptoBulkAll parts + 1
  | .iface _ d => uptoBulk d + 1
  | .map entries => uptoBulkEntries entries + 1
  | .held _ => 1
def uptoBulkAll {H : Type} : List (DataW H) → Nat
  | [] => 0
  | d :: r => uptoBulk d + uptoBulkAll r
def uptoBulkEntries {H : Type} : List (Lit × DataW H) → Nat
  | [] => 0
  | x :: r => uptoBulkEntry x + uptoBulkEntries r
def uptoBulkEntry {H : Type} : Lit × DataW H → Nat
  | (.string bytes, d) => bytes.length + uptoBulk d + 1
  | (_, d) => uptoBulk d + 1
 end
def uptoSmall : (H : Type) → List (DataW H) → Bool := fun _ ds => decide (uptoBulkAll ds ≤ 1048576)
def OpenSpec.upto (s : _root_.Go.ChangeSpec) : _root_.Go.OpenSpec := { _root_.Go.OpenSpec.ofChange s with cond := some uptoSmall }

/-- 'presagelaw09.Lr0Builds', WHERE WHAT IT READS IS OF BULK AT MOST 1048576: true; the input reads as it did. -/
def lr0BuildsUptoRow : OpenClaim := { program := "ytglamnhmjikhkaa", sum := "990144bfb3b044cb821340a35b23797104ca0ecf89bd64e4b0bb1a11a9dd4a9e", func := "presage/presagelaw09.Lr0Builds", spec := "lr0Builds", unfollowed := true, recurses := true, apart := false, narrowed := true }
def Lr0BuildsUptoSaid : Prop := lr0BuildsUptoRow.holds Try.pinned (OpenSpec.upto lr0BuildsSpec)

/-- 'presagelaw09.Lr0Closures', WHERE WHAT IT READS IS OF BULK AT MOST 1048576: true; the input reads as it did. -/
def lr0ClosuresUptoRow : OpenClaim := { program := "ytglamnhmjikhkaa", sum := "990144bfb3b044cb821340a35b23797104ca0ecf89bd64e4b0bb1a11a9dd4a9e", func := "presage/presagelaw09.Lr0Closures", spec := "lr0Closures", unfollowed := true, recurses := true, apart := false, narrowed := true }
def Lr0ClosuresUptoSaid : Prop := lr0ClosuresUptoRow.holds Try.pinned (OpenSpec.upto lr0ClosuresSpec)

/-- 'presagelaw09.Lr0Interns', WHERE WHAT IT READS IS OF BULK AT MOST 1048576: true; the input reads as it did. -/
def lr0InternsUptoRow : OpenClaim := { program := "ytglamnhmjikhkaa", sum := "990144bfb3b044cb821340a35b23797104ca0ecf89bd64e4b0bb1a11a9dd4a9e", func := "presage/presagelaw09.Lr0Interns", spec := "lr0Interns", unfollowed := true, recurses := true, apart := false, narrowed := true }
def Lr0InternsUptoSaid : Prop := lr0InternsUptoRow.holds Try.pinned (OpenSpec.upto lr0InternsSpec)

/-- 'presagelaw09.Lr0Edges', WHERE WHAT IT READS IS OF BULK AT MOST 1048576: true; the input reads as it did. -/
def lr0EdgesUptoRow : OpenClaim := { program := "ytglamnhmjikhkaa", sum := "990144bfb3b044cb821340a35b23797104ca0ecf89bd64e4b0bb1a11a9dd4a9e", func := "presage/presagelaw09.Lr0Edges", spec := "lr0Edges", unfollowed := true, recurses := true, apart := false, narrowed := true }
def Lr0EdgesUptoSaid : Prop := lr0EdgesUptoRow.holds Try.pinned (OpenSpec.upto lr0EdgesSpec)

/-- 'presagelaw09.Lr0Again', WHERE WHAT IT READS IS OF BULK AT MOST 1048576: true; the input reads as it did. -/
def lr0AgainUptoRow : OpenClaim := { program := "ytglamnhmjikhkaa", sum := "990144bfb3b044cb821340a35b23797104ca0ecf89bd64e4b0bb1a11a9dd4a9e", func := "presage/presagelaw09.Lr0Again", spec := "lr0Again", unfollowed := true, recurses := true, apart := false, narrowed := true }
def Lr0AgainUptoSaid : Prop := lr0AgainUptoRow.holds Try.pinned (OpenSpec.upto lr0AgainSpec)

/-- 'presagelaw09.Lr0Sums', WHERE WHAT IT READS IS OF BULK AT MOST 1048576: true; the input reads as it did. -/
def lr0SumsUptoRow : OpenClaim := { program := "ytglamnhmjikhkaa", sum := "990144bfb3b044cb821340a35b23797104ca0ecf89bd64e4b0bb1a11a9dd4a9e", func := "presage/presagelaw09.Lr0Sums", spec := "lr0Sums", unfollowed := true, recurses := true, apart := false, narrowed := true }
def Lr0SumsUptoSaid : Prop := lr0SumsUptoRow.holds Try.pinned (OpenSpec.upto lr0SumsSpec)

end Rows
end Go.Proofs.Ytglamnhmjikhkaa
