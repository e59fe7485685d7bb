import Derived.Test.YtdgphdkebegidaaPx2
import Derived.Test.YtdgphdkebegidaaAri
namespace Go.Proofs.Ytdgphdkebegidaa.Pure
open Go.RowKit Go.Proofs.Ytdgphdkebegidaa.P Go.Proofs.YtdgphdkebegidaaW.PrintWords Go.Proofs.YtdgphdkebegidaaW.PrintLast

theorem SerialSigns : cuneiformlaw10_SerialSigns.Pure := by
  intro a b n ha hb hn
  have ha := u32_of ha
  have hb := u32_of hb
  have hn := i64_of hn
  unfold cuneiformlaw10_SerialSigns.f
  simp only [known_true, Way_eq, Add_eq, After_eq, Diff_eq, Option.bind_some, if_true]
  have h1 : sd ((a + n % 4294967296) % 4294967296) ((b + n % 4294967296) % 4294967296) = sd a b := by
    unfold sd
    have : ((a + n % 4294967296) % 4294967296 - (b + n % 4294967296) % 4294967296) % 4294967296 = (a - b) % 4294967296 := by omega
    rw [this]
  have h2 : sd a a = 0 := by unfold sd; split <;> omega
  have h3 : (b - a) % 4294967296 ≠ 2147483648 → sd a b = wrap64 (-(sd b a)) := by
    unfold sd wrap64; intro h; split <;> split <;> omega
  have h4 : sd a b > 0 → ¬ sd b a > 0 := by unfold sd; split <;> split <;> omega
  have h5 : a = b → ¬ sd a b > 0 ∧ ¬ sd b a > 0 := by rintro rfl; rw [h2]; omega
  have h6 : (b - a) % 4294967296 = 2147483648 → ¬ sd a b > 0 ∧ ¬ sd b a > 0 := by
    unfold sd; intro h; split <;> split <;> omega
  have h7 : a ≠ b → (b - a) % 4294967296 ≠ 2147483648 → sd a b > 0 ∨ sd b a > 0 := by
    unfold sd; intro h; split <;> split <;> omega
  rw [h1, h2]
  generalize sd a b = s at *
  generalize sd b a = t at *
  generalize (b - a) % 4294967296 = m at *
  by_cases hab : a = b
  · have := h5 hab
    simp [hab, this.1, this.2]
    intro hm; exact h3 hm
  · by_cases hm : m = 2147483648
    · have := h6 hm
      simp [hab, hm, this.1, this.2]
    · have h3 := h3 hm
      have h7 := h7 hab hm
      by_cases hs : s > 0
      · have := h4 hs
        simp [hab, hm, hs, this, ← h3]
      · have : t > 0 := by omega
        simp [hab, hm, hs, this, ← h3]

end Go.Proofs.Ytdgphdkebegidaa.Pure
