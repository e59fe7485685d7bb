/-
  No cell of these rows narrows 'for every input' (looked for: loops, veiled, ifaces, maps, wideKeys, modest, calm, conditions, laid).
  DERIVED. THE GIVEN ROWS OF THIS SEAT. 4 by the template 'for every input the law returns true; each argument reads behind the call as it read before'; 0 by the template 'total and deterministic' (their statements: YtnflobldekhjbaaTotals.lean).
  GIVEN WITH THE SEED: the statements are not yours to turn. If you find one false, say at which input.
  Laid BY PROGRAM, IN A SANDBOX (cutbox-rows.mjs): the forced cells as the released guide's own fill.sh prints them over the translation 6f476f7339736467… (all of the seat's roots in one cut). By AI agents, Wed Nov 11 2026. No macro, syntax, notation, axiom, sorry.
-/
import Derived.Test.YtnflobldekhjbaaChecked
import GoSem.Claim
import GoSem.ClaimJoined
import GoSem.ClaimMapViews
import Derived.JoinedTies
import Derived.KernelRfl
namespace Go.Proofs.Ytnflobldekhjbaa
/- THE CELL 'sum', in the pinned program and in every row, IS THE sha256 OF THE DUMP (.gsa) THAT YtnflobldekhjbaaProg.lean LOADS. Nothing in Lean hashes anything: it is a label: what it is worth is what the hold of that sum in a sandbox is worth. -/
noncomputable def Try.pinned : Pinned := { name := "ytnflobldekhjbaa", sum := "6f476f7339736467286c85b5c20174d1673d601dd84e2287c37ae8813f8ce2bb", checked := Try.checked }
namespace Rows
def none {H : Type} : Left H := { results := [], args := [] }

/-- 'cuneiformlaw06.FenceJoins': WHATEVER THE INPUT: true; the input reads as it did. -/
def fenceJoinsSpec : ChangeSpec := { name := "fenceJoins", fn := fun _ => fun
  | [d1, d2] => { results := [.lit (.bool true)], args := [d1, d2] }
  | _ => none }
def fenceJoinsRow : OpenClaim := { program := "ytnflobldekhjbaa", sum := "6f476f7339736467286c85b5c20174d1673d601dd84e2287c37ae8813f8ce2bb", func := "cuneiform/cuneiformlaw06.FenceJoins", spec := "fenceJoins", unfollowed := true, recurses := true, apart := false }
def FenceJoinsSaid : Prop := fenceJoinsRow.holds Try.pinned (OpenSpec.ofChange fenceJoinsSpec)

/-- ITS FALSE NEIGHBOUR: 'it returns false'. Refute it at one input. -/
def fenceJoinsWrong : ChangeSpec := { name := "fenceJoins", fn := fun _ => fun
  | [d1, d2] => { results := [.lit (.bool false)], args := [d1, d2] }
  | _ => none }
def FenceJoinsWrongFalsely : Prop := fenceJoinsRow.holds Try.pinned (OpenSpec.ofChange fenceJoinsWrong)

/-- 'cuneiformlaw06.FenceSplits': WHATEVER THE INPUT: true; the input reads as it did. -/
def fenceSplitsSpec : ChangeSpec := { name := "fenceSplits", fn := fun _ => fun
  | [d1, d2] => { results := [.lit (.bool true)], args := [d1, d2] }
  | _ => none }
def fenceSplitsRow : OpenClaim := { program := "ytnflobldekhjbaa", sum := "6f476f7339736467286c85b5c20174d1673d601dd84e2287c37ae8813f8ce2bb", func := "cuneiform/cuneiformlaw06.FenceSplits", spec := "fenceSplits", unfollowed := true, recurses := true, apart := false }
def FenceSplitsSaid : Prop := fenceSplitsRow.holds Try.pinned (OpenSpec.ofChange fenceSplitsSpec)

/-- ITS FALSE NEIGHBOUR: 'it returns false'. Refute it at one input. -/
def fenceSplitsWrong : ChangeSpec := { name := "fenceSplits", fn := fun _ => fun
  | [d1, d2] => { results := [.lit (.bool false)], args := [d1, d2] }
  | _ => none }
def FenceSplitsWrongFalsely : Prop := fenceSplitsRow.holds Try.pinned (OpenSpec.ofChange fenceSplitsWrong)

/-- 'cuneiformlaw06.FenceWraps': WHATEVER THE INPUT: true; the input reads as it did. -/
def fenceWrapsSpec : ChangeSpec := { name := "fenceWraps", fn := fun _ => fun
  | [d] => { results := [.lit (.bool true)], args := [d] }
  | _ => none }
def fenceWrapsRow : OpenClaim := { program := "ytnflobldekhjbaa", sum := "6f476f7339736467286c85b5c20174d1673d601dd84e2287c37ae8813f8ce2bb", func := "cuneiform/cuneiformlaw06.FenceWraps", spec := "fenceWraps", unfollowed := true, recurses := true, apart := false }
def FenceWrapsSaid : Prop := fenceWrapsRow.holds Try.pinned (OpenSpec.ofChange fenceWrapsSpec)

/-- ITS FALSE NEIGHBOUR: 'it returns false'. Refute it at one input. -/
def fenceWrapsWrong : ChangeSpec := { name := "fenceWraps", fn := fun _ => fun
  | [d] => { results := [.lit (.bool false)], args := [d] }
  | _ => none }
def FenceWrapsWrongFalsely : Prop := fenceWrapsRow.holds Try.pinned (OpenSpec.ofChange fenceWrapsWrong)

/-- 'cuneiformlaw06.FenceChunks': WHATEVER THE INPUT: true; the input reads as it did. -/
def fenceChunksSpec : ChangeSpec := { name := "fenceChunks", fn := fun _ => fun
  | [d1, d2] => { results := [.lit (.bool true)], args := [d1, d2] }
  | _ => none }
def fenceChunksRow : OpenClaim := { program := "ytnflobldekhjbaa", sum := "6f476f7339736467286c85b5c20174d1673d601dd84e2287c37ae8813f8ce2bb", func := "cuneiform/cuneiformlaw06.FenceChunks", spec := "fenceChunks", unfollowed := true, recurses := true, apart := false }
def FenceChunksSaid : Prop := fenceChunksRow.holds Try.pinned (OpenSpec.ofChange fenceChunksSpec)

/-- ITS FALSE NEIGHBOUR: 'it returns false'. Refute it at one input. -/
def fenceChunksWrong : ChangeSpec := { name := "fenceChunks", fn := fun _ => fun
  | [d1, d2] => { results := [.lit (.bool false)], args := [d1, d2] }
  | _ => none }
def FenceChunksWrongFalsely : Prop := fenceChunksRow.holds Try.pinned (OpenSpec.ofChange fenceChunksWrong)

/- THE SECOND FORM. 'bulk': how many values and letters a reading holds, each counted each time it is reached (what is shared counts as often as it is met; a slice's spare places count too). A statement '..UptoSaid' is the law's where the arguments, and the package variables that the reading takes, are together of bulk at most 1048576: NARROWER than '..Said'. Prove '..Said' where nothing that the law and all that it calls make is longer than what came in: it says more and counts as full. Else prove '..UptoSaid'. A law counts once. -/
mutual
def uptoBulk {H : Type} : DataW H → Nat
  | .lit (.string bytes) => bytes.length + 1
  | .lit _ => 1
  | .nil => 1
  | .ptr d => uptoBulk d + 1
  | .slice elems spare => uptoBulkAll elems + uptoBulkAll spare + 1
  | .agg parts => uptoBulkAll parts + 1
  | .iface _ d => uptoBulk d + 1
  | .map entries => uptoBulkEntries entries + 1
  | .held _ => 1
def uptoBulkAll {H : Type} : List (DataW H) → Nat
  | [] => 0
  | d :: r => uptoBulk d + uptoBulkAll r
def uptoBulkEntries {H : Type} : List (Lit × DataW H) → Nat
  | [] => 0
  | x :: r => uptoBulkEntry x + uptoBulkEntries r
def uptoBulkEntry {H : Type} : Lit × DataW H → Nat
  | (.string bytes, d) => bytes.length + uptoBulk d + 1
  | (_, d) => uptoBulk d + 1
 end
def uptoSmall : (H : Type) → List (DataW H) → Bool := fun _ ds => decide (uptoBulkAll ds ≤ 1048576)
def OpenSpec.upto (s : _root_.Go.ChangeSpec) : _root_.Go.OpenSpec := { _root_.Go.OpenSpec.ofChange s with cond := some uptoSmall }

/-- 'cuneiformlaw06.FenceJoins', WHERE WHAT IT READS IS OF BULK AT MOST 1048576: true; the input reads as it did. -/
def fenceJoinsUptoRow : OpenClaim := { program := "ytnflobldekhjbaa", sum := "6f476f7339736467286c85b5c20174d1673d601dd84e2287c37ae8813f8ce2bb", func := "cuneiform/cuneiformlaw06.FenceJoins", spec := "fenceJoins", unfollowed := true, recurses := true, apart := false, narrowed := true }
def FenceJoinsUptoSaid : Prop := fenceJoinsUptoRow.holds Try.pinned (OpenSpec.upto fenceJoinsSpec)

/-- 'cuneiformlaw06.FenceSplits', WHERE WHAT IT READS IS OF BULK AT MOST 1048576: true; the input reads as it did. -/
def fenceSplitsUptoRow : OpenClaim := { program := "ytnflobldekhjbaa", sum := "6f476f7339736467286c85b5c20174d1673d601dd84e2287c37ae8813f8ce2bb", func := "cuneiform/cuneiformlaw06.FenceSplits", spec := "fenceSplits", unfollowed := true, recurses := true, apart := false, narrowed := true }
def FenceSplitsUptoSaid : Prop := fenceSplitsUptoRow.holds Try.pinned (OpenSpec.upto fenceSplitsSpec)

/-- 'cuneiformlaw06.FenceWraps', WHERE WHAT IT READS IS OF BULK AT MOST 1048576: true; the input reads as it did. -/
def fenceWrapsUptoRow : OpenClaim := { program := "ytnflobldekhjbaa", sum := "6f476f7339736467286c85b5c20174d1673d601dd84e2287c37ae8813f8ce2bb", func := "cuneiform/cuneiformlaw06.FenceWraps", spec := "fenceWraps", unfollowed := true, recurses := true, apart := false, narrowed := true }
def FenceWrapsUptoSaid : Prop := fenceWrapsUptoRow.holds Try.pinned (OpenSpec.upto fenceWrapsSpec)

/-- 'cuneiformlaw06.FenceChunks', WHERE WHAT IT READS IS OF BULK AT MOST 1048576: true; the input reads as it did. -/
def fenceChunksUptoRow : OpenClaim := { program := "ytnflobldekhjbaa", sum := "6f476f7339736467286c85b5c20174d1673d601dd84e2287c37ae8813f8ce2bb", func := "cuneiform/cuneiformlaw06.FenceChunks", spec := "fenceChunks", unfollowed := true, recurses := true, apart := false, narrowed := true }
def FenceChunksUptoSaid : Prop := fenceChunksUptoRow.holds Try.pinned (OpenSpec.upto fenceChunksSpec)

end Rows
end Go.Proofs.Ytnflobldekhjbaa
