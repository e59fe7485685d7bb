/-
  No cell of these rows narrows 'for every input' (looked for: loops, veiled, ifaces, maps, wideKeys, modest, calm, conditions, laid).
  DERIVED. THE GIVEN ROWS OF THIS SEAT. 4 by the template 'for every input the law returns true; each argument reads behind the call as it read before'; 0 by the template 'total and deterministic' (their statements: YtmpampbpkcfdoaaTotals.lean).
  GIVEN WITH THE SEED: the statements are not yours to turn. If you find one false, say at which input.
  Laid BY PROGRAM, IN A SANDBOX (cutbox-rows.mjs): the forced cells as the released guide's own fill.sh prints them over the translation 4d1502847f558be1… (all of the seat's roots in one cut). By AI agents, Wed Nov 11 2026. No macro, syntax, notation, axiom, sorry.
-/
import Derived.Test.YtmpampbpkcfdoaaChecked
import GoSem.Claim
import GoSem.ClaimJoined
import GoSem.ClaimMapViews
import Derived.JoinedTies
import Derived.KernelRfl
namespace Go.Proofs.Ytmpampbpkcfdoaa
/- THE CELL 'sum', in the pinned program and in every row, IS THE sha256 OF THE DUMP (.gsa) THAT YtmpampbpkcfdoaaProg.lean LOADS. Nothing in Lean hashes anything: it is a label: what it is worth is what the hold of that sum in a sandbox is worth. -/
noncomputable def Try.pinned : Pinned := { name := "ytmpampbpkcfdoaa", sum := "4d1502847f558be158eed3fcbd60a5d57673f5020989060e2ab3f3992b7613cc", checked := Try.checked }
namespace Rows
def none {H : Type} : Left H := { results := [], args := [] }

/-- 'cuneiformlaw05.CobsSizes': WHATEVER THE INPUT: true; the input reads as it did. -/
def cobsSizesSpec : ChangeSpec := { name := "cobsSizes", fn := fun _ => fun
  | [d1, d2] => { results := [.lit (.bool true)], args := [d1, d2] }
  | _ => none }
def cobsSizesRow : OpenClaim := { program := "ytmpampbpkcfdoaa", sum := "4d1502847f558be158eed3fcbd60a5d57673f5020989060e2ab3f3992b7613cc", func := "cuneiform/cuneiformlaw05.CobsSizes", spec := "cobsSizes", unfollowed := true, recurses := true, apart := false }
def CobsSizesSaid : Prop := cobsSizesRow.holds Try.pinned (OpenSpec.ofChange cobsSizesSpec)

/-- ITS FALSE NEIGHBOUR: 'it returns false'. Refute it at one input. -/
def cobsSizesWrong : ChangeSpec := { name := "cobsSizes", fn := fun _ => fun
  | [d1, d2] => { results := [.lit (.bool false)], args := [d1, d2] }
  | _ => none }
def CobsSizesWrongFalsely : Prop := cobsSizesRow.holds Try.pinned (OpenSpec.ofChange cobsSizesWrong)

/-- 'cuneiformlaw05.CobsCuts': WHATEVER THE INPUT: true; the input reads as it did. -/
def cobsCutsSpec : ChangeSpec := { name := "cobsCuts", fn := fun _ => fun
  | [d1, d2] => { results := [.lit (.bool true)], args := [d1, d2] }
  | _ => none }
def cobsCutsRow : OpenClaim := { program := "ytmpampbpkcfdoaa", sum := "4d1502847f558be158eed3fcbd60a5d57673f5020989060e2ab3f3992b7613cc", func := "cuneiform/cuneiformlaw05.CobsCuts", spec := "cobsCuts", unfollowed := true, recurses := true, apart := false }
def CobsCutsSaid : Prop := cobsCutsRow.holds Try.pinned (OpenSpec.ofChange cobsCutsSpec)

/-- ITS FALSE NEIGHBOUR: 'it returns false'. Refute it at one input. -/
def cobsCutsWrong : ChangeSpec := { name := "cobsCuts", fn := fun _ => fun
  | [d1, d2] => { results := [.lit (.bool false)], args := [d1, d2] }
  | _ => none }
def CobsCutsWrongFalsely : Prop := cobsCutsRow.holds Try.pinned (OpenSpec.ofChange cobsCutsWrong)

/-- 'cuneiformlaw05.CobsDecodes': WHATEVER THE INPUT: true; the input reads as it did. -/
def cobsDecodesSpec : ChangeSpec := { name := "cobsDecodes", fn := fun _ => fun
  | [d] => { results := [.lit (.bool true)], args := [d] }
  | _ => none }
def cobsDecodesRow : OpenClaim := { program := "ytmpampbpkcfdoaa", sum := "4d1502847f558be158eed3fcbd60a5d57673f5020989060e2ab3f3992b7613cc", func := "cuneiform/cuneiformlaw05.CobsDecodes", spec := "cobsDecodes", unfollowed := true, recurses := true, apart := false }
def CobsDecodesSaid : Prop := cobsDecodesRow.holds Try.pinned (OpenSpec.ofChange cobsDecodesSpec)

/-- ITS FALSE NEIGHBOUR: 'it returns false'. Refute it at one input. -/
def cobsDecodesWrong : ChangeSpec := { name := "cobsDecodes", fn := fun _ => fun
  | [d] => { results := [.lit (.bool false)], args := [d] }
  | _ => none }
def CobsDecodesWrongFalsely : Prop := cobsDecodesRow.holds Try.pinned (OpenSpec.ofChange cobsDecodesWrong)

/-- 'cuneiformlaw05.CobsStuffs': WHATEVER THE INPUT: true; the input reads as it did. -/
def cobsStuffsSpec : ChangeSpec := { name := "cobsStuffs", fn := fun _ => fun
  | [d] => { results := [.lit (.bool true)], args := [d] }
  | _ => none }
def cobsStuffsRow : OpenClaim := { program := "ytmpampbpkcfdoaa", sum := "4d1502847f558be158eed3fcbd60a5d57673f5020989060e2ab3f3992b7613cc", func := "cuneiform/cuneiformlaw05.CobsStuffs", spec := "cobsStuffs", unfollowed := true, recurses := true, apart := false }
def CobsStuffsSaid : Prop := cobsStuffsRow.holds Try.pinned (OpenSpec.ofChange cobsStuffsSpec)

/-- ITS FALSE NEIGHBOUR: 'it returns false'. Refute it at one input. -/
def cobsStuffsWrong : ChangeSpec := { name := "cobsStuffs", fn := fun _ => fun
  | [d] => { results := [.lit (.bool false)], args := [d] }
  | _ => none }
def CobsStuffsWrongFalsely : Prop := cobsStuffsRow.holds Try.pinned (OpenSpec.ofChange cobsStuffsWrong)

/- THE SECOND FORM. 'bulk': how many values and letters a reading holds, each counted each time it is reached (what is shared counts as often as it is met; a slice's spare places count too). A statement '..UptoSaid' is the law's where the arguments, and the package variables that the reading takes, are together of bulk at most 1048576: NARROWER than '..Said'. Prove '..Said' where nothing that the law and all that it calls make is longer than what came in: it says more and counts as full. Else prove '..UptoSaid'. A law counts once. -/
mutual
def uptoBulk {H : Type} : DataW H → Nat
  | .lit (.string bytes) => bytes.length + 1
  | .lit _ => 1
  | .nil => 1
  | .ptr d => uptoBulk d + 1
  | .slice elems spare => uptoBulkAll elems + uptoBulkAll spare + 1
  | .agg parts => uptoBulkAll parts + 1
  | .iface _ d => uptoBulk d + 1
  | .map entries => uptoBulkEntries entries + 1
  | .held _ => 1
def uptoBulkAll {H : Type} : List (DataW H) → Nat
  | [] => 0
  | d :: r => uptoBulk d + uptoBulkAll r
def uptoBulkEntries {H : Type} : List (Lit × DataW H) → Nat
  | [] => 0
  | x :: r => uptoBulkEntry x + uptoBulkEntries r
def uptoBulkEntry {H : Type} : Lit × DataW H → Nat
  | (.string bytes, d) => bytes.length + uptoBulk d + 1
  | (_, d) => uptoBulk d + 1
 end
def uptoSmall : (H : Type) → List (DataW H) → Bool := fun _ ds => decide (uptoBulkAll ds ≤ 1048576)
def OpenSpec.upto (s : _root_.Go.ChangeSpec) : _root_.Go.OpenSpec := { _root_.Go.OpenSpec.ofChange s with cond := some uptoSmall }

/-- 'cuneiformlaw05.CobsSizes', WHERE WHAT IT READS IS OF BULK AT MOST 1048576: true; the input reads as it did. -/
def cobsSizesUptoRow : OpenClaim := { program := "ytmpampbpkcfdoaa", sum := "4d1502847f558be158eed3fcbd60a5d57673f5020989060e2ab3f3992b7613cc", func := "cuneiform/cuneiformlaw05.CobsSizes", spec := "cobsSizes", unfollowed := true, recurses := true, apart := false, narrowed := true }
def CobsSizesUptoSaid : Prop := cobsSizesUptoRow.holds Try.pinned (OpenSpec.upto cobsSizesSpec)

/-- 'cuneiformlaw05.CobsCuts', WHERE WHAT IT READS IS OF BULK AT MOST 1048576: true; the input reads as it did. -/
def cobsCutsUptoRow : OpenClaim := { program := "ytmpampbpkcfdoaa", sum := "4d1502847f558be158eed3fcbd60a5d57673f5020989060e2ab3f3992b7613cc", func := "cuneiform/cuneiformlaw05.CobsCuts", spec := "cobsCuts", unfollowed := true, recurses := true, apart := false, narrowed := true }
def CobsCutsUptoSaid : Prop := cobsCutsUptoRow.holds Try.pinned (OpenSpec.upto cobsCutsSpec)

/-- 'cuneiformlaw05.CobsDecodes', WHERE WHAT IT READS IS OF BULK AT MOST 1048576: true; the input reads as it did. -/
def cobsDecodesUptoRow : OpenClaim := { program := "ytmpampbpkcfdoaa", sum := "4d1502847f558be158eed3fcbd60a5d57673f5020989060e2ab3f3992b7613cc", func := "cuneiform/cuneiformlaw05.CobsDecodes", spec := "cobsDecodes", unfollowed := true, recurses := true, apart := false, narrowed := true }
def CobsDecodesUptoSaid : Prop := cobsDecodesUptoRow.holds Try.pinned (OpenSpec.upto cobsDecodesSpec)

/-- 'cuneiformlaw05.CobsStuffs', WHERE WHAT IT READS IS OF BULK AT MOST 1048576: true; the input reads as it did. -/
def cobsStuffsUptoRow : OpenClaim := { program := "ytmpampbpkcfdoaa", sum := "4d1502847f558be158eed3fcbd60a5d57673f5020989060e2ab3f3992b7613cc", func := "cuneiform/cuneiformlaw05.CobsStuffs", spec := "cobsStuffs", unfollowed := true, recurses := true, apart := false, narrowed := true }
def CobsStuffsUptoSaid : Prop := cobsStuffsUptoRow.holds Try.pinned (OpenSpec.upto cobsStuffsSpec)

end Rows
end Go.Proofs.Ytmpampbpkcfdoaa
