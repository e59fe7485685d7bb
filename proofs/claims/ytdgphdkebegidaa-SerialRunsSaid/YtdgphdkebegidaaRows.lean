/-
  No cell of these rows narrows 'for every input' (looked for: loops, veiled, ifaces, maps, wideKeys, modest, calm, conditions, laid).
  DERIVED. THE GIVEN ROWS OF THIS SEAT. 5 by the template 'for every input the law returns true; each argument reads behind the call as it read before'; 0 by the template 'total and deterministic' (their statements: YtdgphdkebegidaaTotals.lean).
  GIVEN WITH THE SEED: the statements are not yours to turn. If you find one false, say at which input.
  Laid BY PROGRAM, IN A SANDBOX (cutbox-rows.mjs): the forced cells as the released guide's own fill.sh prints them over the translation c760de181606d2ec… (all of the seat's roots in one cut). By AI agents, Wed Nov 11 2026. No macro, syntax, notation, axiom, sorry.
-/
import Derived.Test.YtdgphdkebegidaaChecked
import GoSem.Claim
import GoSem.ClaimJoined
import GoSem.ClaimMapViews
import Derived.JoinedTies
import Derived.KernelRfl
namespace Go.Proofs.Ytdgphdkebegidaa
/- THE CELL 'sum', in the pinned program and in every row, IS THE sha256 OF THE DUMP (.gsa) THAT YtdgphdkebegidaaProg.lean LOADS. Nothing in Lean hashes anything: it is a label: what it is worth is what the hold of that sum in a sandbox is worth. -/
noncomputable def Try.pinned : Pinned := { name := "ytdgphdkebegidaa", sum := "c760de181606d2ecaaa2ed9f598259ae1170919f4cd04e720da2708af0cded22", checked := Try.checked }
namespace Rows
def none {H : Type} : Left H := { results := [], args := [] }

/-- 'cuneiformlaw10.SerialWays': WHATEVER THE INPUT: true; the input reads as it did. -/
def serialWaysSpec : ChangeSpec := { name := "serialWays", fn := fun _ => fun
  | [d1, d2, d3] => { results := [.lit (.bool true)], args := [d1, d2, d3] }
  | _ => none }
def serialWaysRow : OpenClaim := { program := "ytdgphdkebegidaa", sum := "c760de181606d2ecaaa2ed9f598259ae1170919f4cd04e720da2708af0cded22", func := "cuneiform/cuneiformlaw10.SerialWays", spec := "serialWays", unfollowed := true, recurses := true, apart := false }
def SerialWaysSaid : Prop := serialWaysRow.holds Try.pinned (OpenSpec.ofChange serialWaysSpec)

/-- ITS FALSE NEIGHBOUR: 'it returns false'. Refute it at one input. -/
def serialWaysWrong : ChangeSpec := { name := "serialWays", fn := fun _ => fun
  | [d1, d2, d3] => { results := [.lit (.bool false)], args := [d1, d2, d3] }
  | _ => none }
def SerialWaysWrongFalsely : Prop := serialWaysRow.holds Try.pinned (OpenSpec.ofChange serialWaysWrong)

/-- 'cuneiformlaw10.SerialSigns': WHATEVER THE INPUT: true; the input reads as it did. -/
def serialSignsSpec : ChangeSpec := { name := "serialSigns", fn := fun _ => fun
  | [d1, d2, d3] => { results := [.lit (.bool true)], args := [d1, d2, d3] }
  | _ => none }
def serialSignsRow : OpenClaim := { program := "ytdgphdkebegidaa", sum := "c760de181606d2ecaaa2ed9f598259ae1170919f4cd04e720da2708af0cded22", func := "cuneiform/cuneiformlaw10.SerialSigns", spec := "serialSigns", unfollowed := true, recurses := true, apart := false }
def SerialSignsSaid : Prop := serialSignsRow.holds Try.pinned (OpenSpec.ofChange serialSignsSpec)

/-- ITS FALSE NEIGHBOUR: 'it returns false'. Refute it at one input. -/
def serialSignsWrong : ChangeSpec := { name := "serialSigns", fn := fun _ => fun
  | [d1, d2, d3] => { results := [.lit (.bool false)], args := [d1, d2, d3] }
  | _ => none }
def SerialSignsWrongFalsely : Prop := serialSignsRow.holds Try.pinned (OpenSpec.ofChange serialSignsWrong)

/-- 'cuneiformlaw10.SerialBest': WHATEVER THE INPUT: true; the input reads as it did. -/
def serialBestSpec : ChangeSpec := { name := "serialBest", fn := fun _ => fun
  | [d] => { results := [.lit (.bool true)], args := [d] }
  | _ => none }
def serialBestRow : OpenClaim := { program := "ytdgphdkebegidaa", sum := "c760de181606d2ecaaa2ed9f598259ae1170919f4cd04e720da2708af0cded22", func := "cuneiform/cuneiformlaw10.SerialBest", spec := "serialBest", unfollowed := true, recurses := true, apart := false }
def SerialBestSaid : Prop := serialBestRow.holds Try.pinned (OpenSpec.ofChange serialBestSpec)

/-- ITS FALSE NEIGHBOUR: 'it returns false'. Refute it at one input. -/
def serialBestWrong : ChangeSpec := { name := "serialBest", fn := fun _ => fun
  | [d] => { results := [.lit (.bool false)], args := [d] }
  | _ => none }
def SerialBestWrongFalsely : Prop := serialBestRow.holds Try.pinned (OpenSpec.ofChange serialBestWrong)

/-- 'cuneiformlaw10.SerialNear': WHATEVER THE INPUT: true; the input reads as it did. -/
def serialNearSpec : ChangeSpec := { name := "serialNear", fn := fun _ => fun
  | [d1, d2] => { results := [.lit (.bool true)], args := [d1, d2] }
  | _ => none }
def serialNearRow : OpenClaim := { program := "ytdgphdkebegidaa", sum := "c760de181606d2ecaaa2ed9f598259ae1170919f4cd04e720da2708af0cded22", func := "cuneiform/cuneiformlaw10.SerialNear", spec := "serialNear", unfollowed := true, recurses := true, apart := false }
def SerialNearSaid : Prop := serialNearRow.holds Try.pinned (OpenSpec.ofChange serialNearSpec)

/-- ITS FALSE NEIGHBOUR: 'it returns false'. Refute it at one input. -/
def serialNearWrong : ChangeSpec := { name := "serialNear", fn := fun _ => fun
  | [d1, d2] => { results := [.lit (.bool false)], args := [d1, d2] }
  | _ => none }
def SerialNearWrongFalsely : Prop := serialNearRow.holds Try.pinned (OpenSpec.ofChange serialNearWrong)

/-- 'cuneiformlaw10.SerialRuns': WHATEVER THE INPUT: true; the input reads as it did. -/
def serialRunsSpec : ChangeSpec := { name := "serialRuns", fn := fun _ => fun
  | [d1, d2, d3] => { results := [.lit (.bool true)], args := [d1, d2, d3] }
  | _ => none }
def serialRunsRow : OpenClaim := { program := "ytdgphdkebegidaa", sum := "c760de181606d2ecaaa2ed9f598259ae1170919f4cd04e720da2708af0cded22", func := "cuneiform/cuneiformlaw10.SerialRuns", spec := "serialRuns", unfollowed := true, recurses := true, apart := false }
def SerialRunsSaid : Prop := serialRunsRow.holds Try.pinned (OpenSpec.ofChange serialRunsSpec)

/-- ITS FALSE NEIGHBOUR: 'it returns false'. Refute it at one input. -/
def serialRunsWrong : ChangeSpec := { name := "serialRuns", fn := fun _ => fun
  | [d1, d2, d3] => { results := [.lit (.bool false)], args := [d1, d2, d3] }
  | _ => none }
def SerialRunsWrongFalsely : Prop := serialRunsRow.holds Try.pinned (OpenSpec.ofChange serialRunsWrong)

/- THE SECOND FORM. 'bulk': how many values and letters a reading holds, each counted each time it is reached (what is shared counts as often as it is met; a slice's spare places count too). A statement '..UptoSaid' is the law's where the arguments, and the package variables that the reading takes, are together of bulk at most 1048576: NARROWER than '..Said'. Prove '..Said' where nothing that the law and all that it calls make is longer than what came in: it says more and counts as full. Else prove '..UptoSaid'. A law counts once. -/
mutual
def uptoBulk {H : Type} : DataW H → Nat
  | .lit (.string bytes) => bytes.length + 1
  | .lit _ => 1
  | .nil => 1
  | .ptr d => uptoBulk d + 1
  | .slice elems spare => uptoBulkAll elems + uptoBulkAll spare + 1
  | .agg parts => uptoBulkAll parts + 1
  | .iface _ d => uptoBulk d + 1
  | .map entries => uptoBulkEntries entries + 1
  | .held _ => 1
def uptoBulkAll {H : Type} : List (DataW H) → Nat
  | [] => 0
  | d :: r => uptoBulk d + uptoBulkAll r
def uptoBulkEntries {H : Type} : List (Lit × DataW H) → Nat
  | [] => 0
  | x :: r => uptoBulkEntry x + uptoBulkEntries r
def uptoBulkEntry {H : Type} : Lit × DataW H → Nat
  | (.string bytes, d) => bytes.length + uptoBulk d + 1
  | (_, d) => uptoBulk d + 1
 end
def uptoSmall : (H : Type) → List (DataW H) → Bool := fun _ ds => decide (uptoBulkAll ds ≤ 1048576)
def OpenSpec.upto (s : _root_.Go.ChangeSpec) : _root_.Go.OpenSpec := { _root_.Go.OpenSpec.ofChange s with cond := some uptoSmall }

/-- 'cuneiformlaw10.SerialWays', WHERE WHAT IT READS IS OF BULK AT MOST 1048576: true; the input reads as it did. -/
def serialWaysUptoRow : OpenClaim := { program := "ytdgphdkebegidaa", sum := "c760de181606d2ecaaa2ed9f598259ae1170919f4cd04e720da2708af0cded22", func := "cuneiform/cuneiformlaw10.SerialWays", spec := "serialWays", unfollowed := true, recurses := true, apart := false, narrowed := true }
def SerialWaysUptoSaid : Prop := serialWaysUptoRow.holds Try.pinned (OpenSpec.upto serialWaysSpec)

/-- 'cuneiformlaw10.SerialSigns', WHERE WHAT IT READS IS OF BULK AT MOST 1048576: true; the input reads as it did. -/
def serialSignsUptoRow : OpenClaim := { program := "ytdgphdkebegidaa", sum := "c760de181606d2ecaaa2ed9f598259ae1170919f4cd04e720da2708af0cded22", func := "cuneiform/cuneiformlaw10.SerialSigns", spec := "serialSigns", unfollowed := true, recurses := true, apart := false, narrowed := true }
def SerialSignsUptoSaid : Prop := serialSignsUptoRow.holds Try.pinned (OpenSpec.upto serialSignsSpec)

/-- 'cuneiformlaw10.SerialBest', WHERE WHAT IT READS IS OF BULK AT MOST 1048576: true; the input reads as it did. -/
def serialBestUptoRow : OpenClaim := { program := "ytdgphdkebegidaa", sum := "c760de181606d2ecaaa2ed9f598259ae1170919f4cd04e720da2708af0cded22", func := "cuneiform/cuneiformlaw10.SerialBest", spec := "serialBest", unfollowed := true, recurses := true, apart := false, narrowed := true }
def SerialBestUptoSaid : Prop := serialBestUptoRow.holds Try.pinned (OpenSpec.upto serialBestSpec)

/-- 'cuneiformlaw10.SerialNear', WHERE WHAT IT READS IS OF BULK AT MOST 1048576: true; the input reads as it did. -/
def serialNearUptoRow : OpenClaim := { program := "ytdgphdkebegidaa", sum := "c760de181606d2ecaaa2ed9f598259ae1170919f4cd04e720da2708af0cded22", func := "cuneiform/cuneiformlaw10.SerialNear", spec := "serialNear", unfollowed := true, recurses := true, apart := false, narrowed := true }
def SerialNearUptoSaid : Prop := serialNearUptoRow.holds Try.pinned (OpenSpec.upto serialNearSpec)

/-- 'cuneiformlaw10.SerialRuns', WHERE WHAT IT READS IS OF BULK AT MOST 1048576: true; the input reads as it did. -/
def serialRunsUptoRow : OpenClaim := { program := "ytdgphdkebegidaa", sum := "c760de181606d2ecaaa2ed9f598259ae1170919f4cd04e720da2708af0cded22", func := "cuneiform/cuneiformlaw10.SerialRuns", spec := "serialRuns", unfollowed := true, recurses := true, apart := false, narrowed := true }
def SerialRunsUptoSaid : Prop := serialRunsUptoRow.holds Try.pinned (OpenSpec.upto serialRunsSpec)

end Rows
end Go.Proofs.Ytdgphdkebegidaa
