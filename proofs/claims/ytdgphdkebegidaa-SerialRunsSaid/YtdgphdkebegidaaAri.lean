import Derived.Test.YtdgphdkebegidaaPx1
namespace Go.Proofs.Ytdgphdkebegidaa.P
set_option linter.unusedVariables false
set_option linter.unusedSimpArgs false
open Go.RowKit Go.Proofs.Ytdgphdkebegidaa.Ext Go.Proofs.YtdgphdkebegidaaW.PrintWords Go.Proofs.YtdgphdkebegidaaW.PrintLast Go.Proofs.YtdgphdkebegidaaW.PrintMore

theorem u32_of {a : Int} (h : (Lit.int .u32 a).wf = true) : 0 ≤ a ∧ a < 4294967296 := by
  have h2 : IntKind.u32.min ≤ a ∧ a ≤ IntKind.u32.max := by simpa [Lit.wf] using h
  have e1 : IntKind.u32.min = 0 := by decide
  have e2 : IntKind.u32.max = 4294967295 := by decide
  omega
theorem i64_of {a : Int} (h : (Lit.int .i64 a).wf = true) : -9223372036854775808 ≤ a ∧ a < 9223372036854775808 := by
  have h2 : IntKind.i64.min ≤ a ∧ a ≤ IntKind.i64.max := by simpa [Lit.wf] using h
  have e1 : IntKind.i64.min = -9223372036854775808 := by decide
  have e2 : IntKind.i64.max = 9223372036854775807 := by decide
  omega

def sd (a b : Int) : Int := if (a - b) % 4294967296 ≥ 2147483648 then (a - b) % 4294967296 - 4294967296 else (a - b) % 4294967296
theorem sd_eq (a b : Int) : wrap64 (wrap32 ((a - b) % 4294967296)) = sd a b := by
  unfold wrap64 wrap32 sd; split <;> omega
theorem Diff_eq (a b : Int) : serial_Diff.f a b = some (sd a b) := by
  unfold serial_Diff.f; rw [sd_eq]
theorem After_eq (a b : Int) : serial_After.f a b = some (decide (sd a b > 0)) := by
  unfold serial_After.f; rw [Diff_eq]; rfl
theorem aft_eq (a b : Int) : aft a b = decide (sd a b > 0) := by
  unfold aft; rw [sd_eq]
theorem Way_eq (a b : Int) : serial_Way.f a b = some ((b - a) % 4294967296) := rfl
theorem Add_eq (a b : Int) : serial_Add.f a b = some ((a + b % 4294967296) % 4294967296) := rfl
theorem u64w (x : Int) : IntKind.u64.wrap x = x % 18446744073709551616 := by
  simp [IntKind.wrap, IntKind.signed, IntKind.bits]
theorem rWay_eq (a b : Int) (ha : 0 ≤ a ∧ a < 4294967296) (hb : 0 ≤ b ∧ b < 4294967296) : cuneiformref10_Way.f a b = some ((b - a) % 4294967296) := by
  unfold cuneiformref10_Way.f
  simp only [u64w]
  rw [Int.tmod_eq_emod_of_nonneg (by omega)]
  congr 1
  omega
theorem rAfter_eq (a b : Int) (ha : 0 ≤ a ∧ a < 4294967296) (hb : 0 ≤ b ∧ b < 4294967296) : cuneiformref10_After.f a b = some (decide (sd a b > 0)) := by
  unfold cuneiformref10_After.f
  rw [rWay_eq _ _ hb ha]
  simp only [Option.bind_some]
  unfold sd
  split
  · congr 1; simp only [decide_eq_decide]; split <;> omega
  · congr 1; symm; simp only [decide_eq_false_iff_not]; split <;> omega
theorem rDiff_eq (a b : Int) (ha : 0 ≤ a ∧ a < 4294967296) (hb : 0 ≤ b ∧ b < 4294967296) : cuneiformref10_Diff.f a b = some (sd a b) := by
  unfold cuneiformref10_Diff.f
  rw [rWay_eq _ _ hb ha]
  simp only [Option.bind_some]
  unfold sd wrap64
  split <;> split <;> first | (congr 1; omega) | (exfalso; omega)
theorem rAdd_eq (a b : Int) (ha : 0 ≤ a ∧ a < 4294967296) (hb : -9223372036854775808 ≤ b ∧ b < 9223372036854775808) : cuneiformref10_Add.f a b = some ((a + b % 4294967296) % 4294967296) := by
  unfold cuneiformref10_Add.f
  have ht : (Int.tmod b 4294967296 = b % 4294967296 ∧ 0 ≤ b) ∨ Int.tmod b 4294967296 = -((-b) % 4294967296) := by
    rcases Int.le_total 0 b with h | h
    · exact Or.inl ⟨Int.tmod_eq_emod_of_nonneg h, h⟩
    · have := Int.neg_tmod (-b) 4294967296
      rw [Int.neg_neg, Int.tmod_eq_emod_of_nonneg (a := -b) (by omega)] at this
      exact Or.inr this
  have hr : -4294967296 < Int.tmod b 4294967296 ∧ Int.tmod b 4294967296 < 4294967296 := by
    rcases ht with ⟨h, _⟩ | h <;> omega
  generalize Int.tmod b 4294967296 = t at ht hr
  simp only [u64w]
  unfold wrap64
  split
  · rw [Int.tmod_eq_emod_of_nonneg (by omega)]; congr 1; omega
  · rw [Int.tmod_eq_emod_of_nonneg (by omega)]; congr 1; omega
theorem known_true : cuneiformlaw10_known.f = some true := by decide +kernel
end Go.Proofs.Ytdgphdkebegidaa.P
