/-
  No cell of these rows narrows 'for every input' (looked for: loops, veiled, ifaces, maps, wideKeys, modest, calm, conditions, laid).
  DERIVED. THE GIVEN ROWS OF THIS SEAT. 5 by the template 'for every input the law returns true; each argument reads behind the call as it read before'; 0 by the template 'total and deterministic' (their statements: YtmkhhnhoodneeaaTotals.lean).
  GIVEN WITH THE SEED: the statements are not yours to turn. If you find one false, say at which input.
  Laid BY PROGRAM, IN A SANDBOX (cutbox-rows.mjs): the forced cells as the released guide's own fill.sh prints them over the translation 94dd3bf78d4b7593… (all of the seat's roots in one cut). By AI agents, Wed Nov 11 2026. No macro, syntax, notation, axiom, sorry.
-/
import Derived.Test.YtmkhhnhoodneeaaChecked
import GoSem.Claim
import GoSem.ClaimJoined
import GoSem.ClaimMapViews
import Derived.JoinedTies
import Derived.KernelRfl
namespace Go.Proofs.Ytmkhhnhoodneeaa
/- THE CELL 'sum', in the pinned program and in every row, IS THE sha256 OF THE DUMP (.gsa) THAT YtmkhhnhoodneeaaProg.lean LOADS. Nothing in Lean hashes anything: it is a label: what it is worth is what the hold of that sum in a sandbox is worth. -/
noncomputable def Try.pinned : Pinned := { name := "ytmkhhnhoodneeaa", sum := "94dd3bf78d4b7593daf970fe86ea4fff3b9ee3a7891e1a7e736869a7e9552ddb", checked := Try.checked }
namespace Rows
def none {H : Type} : Left H := { results := [], args := [] }

/-- 'cuneiformlaw09.ScanNil': WHATEVER THE INPUT: true; the input reads as it did. -/
def scanNilSpec : ChangeSpec := { name := "scanNil", fn := fun _ => fun
  | [d] => { results := [.lit (.bool true)], args := [d] }
  | _ => none }
def scanNilRow : OpenClaim := { program := "ytmkhhnhoodneeaa", sum := "94dd3bf78d4b7593daf970fe86ea4fff3b9ee3a7891e1a7e736869a7e9552ddb", func := "cuneiform/cuneiformlaw09.ScanNil", spec := "scanNil", unfollowed := true, recurses := true, apart := false }
def ScanNilSaid : Prop := scanNilRow.holds Try.pinned (OpenSpec.ofChange scanNilSpec)

/-- ITS FALSE NEIGHBOUR: 'it returns false'. Refute it at one input. -/
def scanNilWrong : ChangeSpec := { name := "scanNil", fn := fun _ => fun
  | [d] => { results := [.lit (.bool false)], args := [d] }
  | _ => none }
def ScanNilWrongFalsely : Prop := scanNilRow.holds Try.pinned (OpenSpec.ofChange scanNilWrong)

/-- 'cuneiformlaw09.ScanChunks': WHATEVER THE INPUT: true; the input reads as it did. -/
def scanChunksSpec : ChangeSpec := { name := "scanChunks", fn := fun _ => fun
  | [d1, d2] => { results := [.lit (.bool true)], args := [d1, d2] }
  | _ => none }
def scanChunksRow : OpenClaim := { program := "ytmkhhnhoodneeaa", sum := "94dd3bf78d4b7593daf970fe86ea4fff3b9ee3a7891e1a7e736869a7e9552ddb", func := "cuneiform/cuneiformlaw09.ScanChunks", spec := "scanChunks", unfollowed := true, recurses := true, apart := false }
def ScanChunksSaid : Prop := scanChunksRow.holds Try.pinned (OpenSpec.ofChange scanChunksSpec)

/-- ITS FALSE NEIGHBOUR: 'it returns false'. Refute it at one input. -/
def scanChunksWrong : ChangeSpec := { name := "scanChunks", fn := fun _ => fun
  | [d1, d2] => { results := [.lit (.bool false)], args := [d1, d2] }
  | _ => none }
def ScanChunksWrongFalsely : Prop := scanChunksRow.holds Try.pinned (OpenSpec.ofChange scanChunksWrong)

/-- 'cuneiformlaw09.ScanEach': WHATEVER THE INPUT: true; the input reads as it did. -/
def scanEachSpec : ChangeSpec := { name := "scanEach", fn := fun _ => fun
  | [d1, d2] => { results := [.lit (.bool true)], args := [d1, d2] }
  | _ => none }
def scanEachRow : OpenClaim := { program := "ytmkhhnhoodneeaa", sum := "94dd3bf78d4b7593daf970fe86ea4fff3b9ee3a7891e1a7e736869a7e9552ddb", func := "cuneiform/cuneiformlaw09.ScanEach", spec := "scanEach", unfollowed := true, recurses := true, apart := false }
def ScanEachSaid : Prop := scanEachRow.holds Try.pinned (OpenSpec.ofChange scanEachSpec)

/-- ITS FALSE NEIGHBOUR: 'it returns false'. Refute it at one input. -/
def scanEachWrong : ChangeSpec := { name := "scanEach", fn := fun _ => fun
  | [d1, d2] => { results := [.lit (.bool false)], args := [d1, d2] }
  | _ => none }
def ScanEachWrongFalsely : Prop := scanEachRow.holds Try.pinned (OpenSpec.ofChange scanEachWrong)

/-- 'cuneiformlaw09.ScanResets': WHATEVER THE INPUT: true; the input reads as it did. -/
def scanResetsSpec : ChangeSpec := { name := "scanResets", fn := fun _ => fun
  | [d1, d2] => { results := [.lit (.bool true)], args := [d1, d2] }
  | _ => none }
def scanResetsRow : OpenClaim := { program := "ytmkhhnhoodneeaa", sum := "94dd3bf78d4b7593daf970fe86ea4fff3b9ee3a7891e1a7e736869a7e9552ddb", func := "cuneiform/cuneiformlaw09.ScanResets", spec := "scanResets", unfollowed := true, recurses := true, apart := false }
def ScanResetsSaid : Prop := scanResetsRow.holds Try.pinned (OpenSpec.ofChange scanResetsSpec)

/-- ITS FALSE NEIGHBOUR: 'it returns false'. Refute it at one input. -/
def scanResetsWrong : ChangeSpec := { name := "scanResets", fn := fun _ => fun
  | [d1, d2] => { results := [.lit (.bool false)], args := [d1, d2] }
  | _ => none }
def ScanResetsWrongFalsely : Prop := scanResetsRow.holds Try.pinned (OpenSpec.ofChange scanResetsWrong)

/-- 'cuneiformlaw09.ScanFeeds': WHATEVER THE INPUT: true; the input reads as it did. -/
def scanFeedsSpec : ChangeSpec := { name := "scanFeeds", fn := fun _ => fun
  | [d] => { results := [.lit (.bool true)], args := [d] }
  | _ => none }
def scanFeedsRow : OpenClaim := { program := "ytmkhhnhoodneeaa", sum := "94dd3bf78d4b7593daf970fe86ea4fff3b9ee3a7891e1a7e736869a7e9552ddb", func := "cuneiform/cuneiformlaw09.ScanFeeds", spec := "scanFeeds", unfollowed := true, recurses := true, apart := false }
def ScanFeedsSaid : Prop := scanFeedsRow.holds Try.pinned (OpenSpec.ofChange scanFeedsSpec)

/-- ITS FALSE NEIGHBOUR: 'it returns false'. Refute it at one input. -/
def scanFeedsWrong : ChangeSpec := { name := "scanFeeds", fn := fun _ => fun
  | [d] => { results := [.lit (.bool false)], args := [d] }
  | _ => none }
def ScanFeedsWrongFalsely : Prop := scanFeedsRow.holds Try.pinned (OpenSpec.ofChange scanFeedsWrong)

/- THE SECOND FORM. 'bulk': how many values and letters a reading holds, each counted each time it is reached (what is shared counts as often as it is met; a slice's spare places count too). A statement '..UptoSaid' is the law's where the arguments, and the package variables that the reading takes, are together of bulk at most 1048576: NARROWER than '..Said'. Prove '..Said' where nothing that the law and all that it calls make is longer than what came in: it says more and counts as full. Else prove '..UptoSaid'. A law counts once. -/
mutual
def uptoBulk {H : Type} : DataW H → Nat
  | .lit (.string bytes) => bytes.length + 1
  | .lit _ => 1
  | .nil => 1
  | .ptr d => uptoBulk d + 1
  | .slice elems spare => uptoBulkAll elems + uptoBulkAll spare + 1
  | .agg parts => uptoBulkAll parts + 1
  | .iface _ d => uptoBulk d + 1
  | .map entries => uptoBulkEntries entries + 1
  | .held _ => 1
def uptoBulkAll {H : Type} : List (DataW H) → Nat
  | [] => 0
  | d :: r => uptoBulk d + uptoBulkAll r
def uptoBulkEntries {H : Type} : List (Lit × DataW H) → Nat
  | [] => 0
  | x :: r => uptoBulkEntry x + uptoBulkEntries r
def uptoBulkEntry {H : Type} : Lit × DataW H → Nat
  | (.string bytes, d) => bytes.length + uptoBulk d + 1
  | (_, d) => uptoBulk d + 1
 end
def uptoSmall : (H : Type) → List (DataW H) → Bool := fun _ ds => decide (uptoBulkAll ds ≤ 1048576)
def OpenSpec.upto (s : _root_.Go.ChangeSpec) : _root_.Go.OpenSpec := { _root_.Go.OpenSpec.ofChange s with cond := some uptoSmall }

/-- 'cuneiformlaw09.ScanNil', WHERE WHAT IT READS IS OF BULK AT MOST 1048576: true; the input reads as it did. -/
def scanNilUptoRow : OpenClaim := { program := "ytmkhhnhoodneeaa", sum := "94dd3bf78d4b7593daf970fe86ea4fff3b9ee3a7891e1a7e736869a7e9552ddb", func := "cuneiform/cuneiformlaw09.ScanNil", spec := "scanNil", unfollowed := true, recurses := true, apart := false, narrowed := true }
def ScanNilUptoSaid : Prop := scanNilUptoRow.holds Try.pinned (OpenSpec.upto scanNilSpec)

/-- 'cuneiformlaw09.ScanChunks', WHERE WHAT IT READS IS OF BULK AT MOST 1048576: true; the input reads as it did. -/
def scanChunksUptoRow : OpenClaim := { program := "ytmkhhnhoodneeaa", sum := "94dd3bf78d4b7593daf970fe86ea4fff3b9ee3a7891e1a7e736869a7e9552ddb", func := "cuneiform/cuneiformlaw09.ScanChunks", spec := "scanChunks", unfollowed := true, recurses := true, apart := false, narrowed := true }
def ScanChunksUptoSaid : Prop := scanChunksUptoRow.holds Try.pinned (OpenSpec.upto scanChunksSpec)

/-- 'cuneiformlaw09.ScanEach', WHERE WHAT IT READS IS OF BULK AT MOST 1048576: true; the input reads as it did. -/
def scanEachUptoRow : OpenClaim := { program := "ytmkhhnhoodneeaa", sum := "94dd3bf78d4b7593daf970fe86ea4fff3b9ee3a7891e1a7e736869a7e9552ddb", func := "cuneiform/cuneiformlaw09.ScanEach", spec := "scanEach", unfollowed := true, recurses := true, apart := false, narrowed := true }
def ScanEachUptoSaid : Prop := scanEachUptoRow.holds Try.pinned (OpenSpec.upto scanEachSpec)

/-- 'cuneiformlaw09.ScanResets', WHERE WHAT IT READS IS OF BULK AT MOST 1048576: true; the input reads as it did. -/
def scanResetsUptoRow : OpenClaim := { program := "ytmkhhnhoodneeaa", sum := "94dd3bf78d4b7593daf970fe86ea4fff3b9ee3a7891e1a7e736869a7e9552ddb", func := "cuneiform/cuneiformlaw09.ScanResets", spec := "scanResets", unfollowed := true, recurses := true, apart := false, narrowed := true }
def ScanResetsUptoSaid : Prop := scanResetsUptoRow.holds Try.pinned (OpenSpec.upto scanResetsSpec)

/-- 'cuneiformlaw09.ScanFeeds', WHERE WHAT IT READS IS OF BULK AT MOST 1048576: true; the input reads as it did. -/
def scanFeedsUptoRow : OpenClaim := { program := "ytmkhhnhoodneeaa", sum := "94dd3bf78d4b7593daf970fe86ea4fff3b9ee3a7891e1a7e736869a7e9552ddb", func := "cuneiform/cuneiformlaw09.ScanFeeds", spec := "scanFeeds", unfollowed := true, recurses := true, apart := false, narrowed := true }
def ScanFeedsUptoSaid : Prop := scanFeedsUptoRow.holds Try.pinned (OpenSpec.upto scanFeedsSpec)

end Rows
end Go.Proofs.Ytmkhhnhoodneeaa
