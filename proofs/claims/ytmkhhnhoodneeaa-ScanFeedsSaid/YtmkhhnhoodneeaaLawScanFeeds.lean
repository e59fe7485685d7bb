/- ScanFeeds holds for every list of lists of bytes. -/
import Derived.Test.YtmkhhnhoodneeaaRows
import Derived.Test.YtmkhhnhoodneeaaHScanFeeds
import Derived.WalkKit
import Derived.ProofKit
import Derived.OpenShut
import Derived.ShutString
import Derived.ChangeOld
import Derived.Below
import Derived.SizedLaws
import Derived.Deep.Matrix
import Derived.Test.YtmkhhnhoodneeaaWSized
namespace Go.Proofs.Ytmkhhnhoodneeaa.scanFeeds
open Go.ChangeShapes Go.WideShapes Go.ChangeAt Go.RowKit
open Go.ChangeMaps (open_string shut_string)
open Go.Proofs.YtmkhhnhoodneeaaW.PrintWords
set_option linter.unusedVariables false
theorem own : ownKnob Try.prog.godebug = none := by kernel_rfl
theorem laidOut : laidOutB Try.prog = true := by kernel_rfl
def IsRow (k : IntKind) (w : World) (a : Option Addr) (len cap : Nat) (zs : List Int) : Prop :=
  (a = none ∧ len = 0 ∧ cap = 0 ∧ zs = []) ∨
  ∃ x, a = some x ∧ len ≤ cap ∧ cap ≤ maxLen ∧ zs.length = cap ∧ (∀ i, i < zs.length → w.cell? (x.add i) = some (.int k (zs.getD i 0))) ∧ ∀ n ∈ zs, (Lit.int k n).wf = true
set_option maxRecDepth 100000 in
theorem lifted (os : Os) (started : os.Started) (H : Type) (enc : TypeId × Value → H) :
    ReturnsInHanded {} Try.checked os 7 .any (Rows.scanFeedsSpec.pre6 enc Try.prog Try.f7 Rows.scanFeedsRow.domain false) (Rows.scanFeedsSpec.post enc Try.prog Try.f7 false true false false) := by
  refine returnsInHanded_of_change_sized (C := Try.checked) own started (by kernel_rfl) Try.func7
    (ChangeSpec.witness6 (enc := enc) (C := Try.checked) false ⟨#[], #[.slice none 0 0], []⟩ 8 (by kernel_rfl) (by kernel_rfl) (by kernel_rfl) (by kernel_rfl)) ?_
  intro W base args ds gs before hval0 hW hcnd hsz0 _
  have hsz : (DataW.weightsEach Try.prog (Try.f7.params.toList ++ Rows.scanFeedsSpec.plain.varTypes Try.prog) (ds ++ gs)).all (· ≤ reachBytes) = true := hsz0
  have hval : ∀ (j : Nat) t v, Try.f7.params[j]? = some t → args[j]? = some v → Value.okWide Try.prog W .any base t v := hval0
  have hW' := hW
  obtain ⟨p, q, hA0, hV, rfl, hfz, hnd⟩ := hW
  have hA : DataW.TrodAll enc Try.prog W 0 (fun _ => true) true Try.f7.params.toList args.toList ds p := hA0
  rw [Try.params7] at hA hval hsz
  obtain ⟨v0, vs0, d0, ds0, p0, q0, hargs, rfl, rfl, h0, r0⟩ := trodAll_cons hA
  obtain ⟨rfl, rfl, rfl⟩ := trodAll_nil r0
  obtain rfl : args = #[v0] := by cases args; simp_all
  obtain ⟨rfl, rfl⟩ := trodVars_none hV
  obtain ⟨a0, len0, cap0, rfl⟩ := okWide_slice Try.underlying42 (hval 0 42 v0 rfl rfl)
  have k0 := h0
  have lt0 : ∀ x ∈ p0, x.block < W.heap.size := by obtain ⟨m, hm⟩ := k0; exact DataW.trod_lt m _ _ _ hm
  obtain ⟨ls, rfl, hC, hc⟩ : ∃ ls : List (List Int), len0 = ls.length ∧ (Kd.slice 5 (Kd.int .u8)).C W a0 ls.length ls ∧ ls.length ≤ cap0 := by
    obtain ⟨fuel, hf⟩ := h0
    rcases Go.Deep.open_int_rows Try.underlying42 Try.underlying22 Try.underlying5 (by kernel_rfl) (by kernel_rfl) hf with ⟨hcs, _⟩ | ⟨x, l, c, A, L, C, Z, hcs, _, hl, hm, _, hx⟩
    · simp [Value.cells] at hcs
      obtain ⟨rfl, rfl, rfl⟩ := hcs
      exact ⟨[], rfl, Kd.C_nil _ _, Nat.zero_le _⟩
    · simp [Value.cells] at hcs
      obtain ⟨rfl, rfl, rfl⟩ := hcs
      refine ⟨(List.range len0).map fun r => (Z r).take (L r), by simp, ⟨rfl, ?_, fun hp => ⟨x, rfl, fun j p hj => ?_⟩⟩, by simpa using hl⟩
      · have : maxLen = 9223372036854775807 := rfl
        simp; omega
      · have hjl : j < len0 := by have := (List.getElem?_eq_some_iff.1 hj).1; simpa using this
        rw [List.getElem?_map, List.getElem?_range hjl] at hj
        obtain rfl : (Z j).take (L j) = p := by simpa using hj
        obtain ⟨h1, h2, h3, h4, h5, h6, h7⟩ := hx j (by omega)
        have hlen : ((Z j).take (L j)).length = L j := by rw [List.length_take]; omega
        refine ⟨[.slice (A j) (L j) (C j)], rfl, ⟨A j, C j, by rw [hlen], by omega, rfl, ?_, fun hq => ?_⟩, fun i u hu => ?_⟩
        · have : maxLen = 9223372036854775807 := rfl
          omega
        · cases hA' : A j with
          | none => have := h6 hA'; omega
          | some a' =>
            refine ⟨a', rfl, fun m q hm' => ?_⟩
            have hml : m < L j := by have := (List.getElem?_eq_some_iff.1 hm').1; omega
            have hmz : m < (Z j).length := by omega
            rw [List.getElem?_take, if_pos hml, List.getElem?_eq_getElem hmz] at hm'
            cases hm'
            refine ⟨[.int .u8 (Z j)[m]], rfl, rfl, fun i u hu => ?_⟩
            cases i with
            | zero =>
              simp at hu
              subst hu
              have := (h7 a' hA').2 m (by omega)
              rw [List.getD_eq_getElem?_getD, List.getElem?_eq_getElem hmz] at this
              simpa [Kd.int, Kd.scalar] using this
            | succ i => simp at hu
        · cases i with
          | zero =>
            simp at hu
            subst hu
            simpa [Kd.slice] using h1
          | succ i => simp at hu
  clear hA0 hval0 hsz0 hsz
  refine (P.cuneiformlaw09_ScanFeeds.walk a0 cap0 ls W hC hc).mono fun e W' ⟨he, bel⟩ => ?_
  subst he
  exact ⟨_, rfl, _, _, _, [], _, [], hW', trodAll_mk1 (shut_bool Try.underlying4 _), (trodAll_cons_mk (Below.trod laidOut (by kernel_rfl) (of_decide_eq_true (by kernel_rfl)) k0 bel lt0) trodAll_mk0), rfl, bel.frame _, fun h => by cases h⟩
theorem over : Rows.scanFeedsRow.holds Try.pinned (OpenSpec.ofChange Rows.scanFeedsSpec) :=
  OpenClaim.holds_of_wide 7 Try.f7 rfl rfl rfl rfl rfl rfl rfl ⟨rfl, rfl, rfl, rfl, rfl⟩ rfl rfl rfl rfl rfl (by kernel_rfl) Try.func7 (by kernel_rfl)
    (of_decide_eq_true (by kernel_rfl)) (by unfold Func.isWrapper; first | (rw [if_pos (by decide +kernel)]; kernel_rfl) | (rw [if_neg (by decide +kernel)]; exact ⟨rfl, rfl⟩))
    (fun os started H enc _ => lifted os started H enc)
theorem proved : Rows.ScanFeedsSaid := over
#print axioms proved
end Go.Proofs.Ytmkhhnhoodneeaa.scanFeeds
namespace Go.Proofs.Ytmkhhnhoodneeaa
/-- The row, under a short name, for the claim. -/
theorem scanFeeds_holds : Rows.ScanFeedsSaid := scanFeeds.proved
end Go.Proofs.Ytmkhhnhoodneeaa
