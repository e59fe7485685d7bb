/- Part 42 of the proof of TopWire: HTopWire. -/
import Derived.Stop.Joined
import Derived.Test.YtgdlpgakhhebeaaGreatDoorMg41
set_option linter.unusedVariables false
namespace Go.Proofs.YtgdlpgakhhebeaaGreatDoor.topWire
theorem over : Rows.TopWireSaid :=
  OpenClaim.holds_of_wide 6 Tryz.f6 rfl rfl rfl rfl rfl rfl rfl ⟨rfl, rfl, rfl, rfl, rfl⟩ rfl rfl rfl rfl rfl named6 Tryz.func6 closed inst wrapper
    (fun os started H enc _ => by rw [OpenClaim.pre_eq_preRow]; exact lifted os started H enc)
theorem plain (f : FuncId) (fn : Func) (hf : Tryz.pinned.checked.prog.funcNamed "cuneiform/cuneiformtop.TopWire" = some f) (hfn : Tryz.pinned.checked.prog.funcs[f]? = some fn) :
    true = Tryz.pinned.checked.prog.looks [] ∧ ∀ (j : Nat) t, fn.params[j]? = some t → Tryz.pinned.checked.prog.wantsStandIn t = false := by
  obtain rfl : f = 6 := Option.some.inj (named6.symm.trans hf) |>.symm
  obtain rfl : fn = Tryz.f6 := (Option.some.inj (Tryz.func6.symm.trans hfn)).symm
  refine ⟨looks6, fun j t ht => ?_⟩
  rw [Tryz.params6] at ht
  have hm : t ∈ [52, 69] := by simpa using Array.mem_of_getElem? ht
  exact (show Tryz.prog.wantsStandIn t = false by simpa using List.all_eq_true.1 stand6 t hm)
theorem byText : Rows.topWireRow.wfByText (OpenSpec.ofChange Rows.topWireSpec) = true := by kernel_rfl
theorem mainIs : Tryz.pinned.checked.prog.mainIs = some (true, "32107ffe686e6a2387bb74a8d894d867dfc0772e7f19b080bf001885585f78cd".toList) := by kernel_rfl
theorem goesBy : false = Rows.topWireRow.goesBy Tryz.pinned.checked.prog := by kernel_rfl
theorem card : Rows.TopWireCardSaid :=
  Claim7.holds_tied_plain_at .later [] _ _ _ _ over (fun _ h => by cases h) byText (fun _ h => by cases h) topWire_row_tie rfl ⟨rfl, rfl⟩ mainIs rfl plain goesBy
#print axioms over
#print axioms card
end Go.Proofs.YtgdlpgakhhebeaaGreatDoor.topWire
namespace Go.Proofs.YtgdlpgakhhebeaaGreatDoor
/-- The row's card, under a short name, for the claim. -/
theorem topWire_card : Rows.TopWireCardSaid := topWire.card
end Go.Proofs.YtgdlpgakhhebeaaGreatDoor
