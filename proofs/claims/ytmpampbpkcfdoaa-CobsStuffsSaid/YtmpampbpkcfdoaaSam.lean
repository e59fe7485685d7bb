/- Same, the examples, Encode, Size, Decode in plain words. -/
import Derived.Test.YtmpampbpkcfdoaaPx1
import Derived.Test.YtmpampbpkcfdoaaCob
set_option linter.unusedVariables false
set_option linter.unusedSimpArgs false
namespace Go.Proofs.Ytmpampbpkcfdoaa.P
open Go.RowKit Go.Proofs.YtmpampbpkcfdoaaW.PrintWords Go.Proofs.YtmpampbpkcfdoaaW.PrintMore Go.Proofs.Ytmpampbpkcfdoaa.Ext Go.Proofs.Ytmpampbpkcfdoaa

theorem same_loop (a b : List Int) (hab : a.length = b.length) (hn : a.length ≤ 9000000000000000000) : ∀ (d k : Nat) (i : Nat), i + d = a.length → d < k → cuneiformref01_Same.l0 k a b (i : Int) = some (decide (a.drop i = b.drop i)) := by
  intro d
  induction d with
  | zero =>
    intro k i hi hk
    obtain ⟨k, rfl⟩ : ∃ m, k = m + 1 := ⟨k - 1, by omega⟩
    simp only [cuneiformref01_Same.l0]
    rw [if_neg (by omega), List.drop_of_length_le (by omega), List.drop_of_length_le (by omega)]
    rfl
  | succ d ih =>
    intro k i hi hk
    obtain ⟨k, rfl⟩ : ∃ m, k = m + 1 := ⟨k - 1, by omega⟩
    simp only [cuneiformref01_Same.l0]
    have hia : i < a.length := by omega
    have hib : i < b.length := by omega
    have e : wrap64 ((i : Int) + 1) = ((i + 1 : Nat) : Int) := by unfold wrap64; omega
    rw [if_pos (by omega), if_pos (by omega), if_pos (by omega), e, ih k (i + 1) (by omega) (by omega), rd_get hia, rd_get hib]
    have hd : a.drop i = b.drop i ↔ a[i] = b[i] ∧ a.drop (i + 1) = b.drop (i + 1) := by
      rw [List.drop_eq_getElem_cons hia, List.drop_eq_getElem_cons hib, List.cons.injEq]
    by_cases h : a[i] = b[i]
    · rw [if_pos h]; refine congrArg some ?_; rw [decide_eq_decide, hd]; exact ⟨fun q => ⟨h, q⟩, fun q => q.2⟩
    · rw [if_neg h, decide_eq_false (fun q => h (hd.1 q).1)]
theorem same_f (a b : List Int) (hn : a.length ≤ 9000000000000000000) (k : Nat) (hk : a.length < k) : cuneiformref01_Same.f k a b = some (decide (a = b)) := by
  unfold cuneiformref01_Same.f
  by_cases h : a.length = b.length
  · rw [if_pos (by omega)]
    exact same_loop a b h hn a.length k 0 (by omega) hk
  · rw [if_neg (by omega), decide_eq_false (fun e => h (by rw [e]))]
theorem wf_byte {x : Int} (h : (Lit.int .u8 x).wf = true) : 0 ≤ x ∧ x < 256 := by
  have e1 : IntKind.u8.min = 0 := rfl
  have e2 : IntKind.u8.max = 255 := rfl
  simp [Lit.wf, e1, e2] at h
  omega
theorem known_true : ∃ k, cuneiformlaw05_known.f k = some true := ⟨10, by decide +kernel⟩
theorem enc_f (l : List Int) (h : l.length ≤ 1000000) : cobs_Encode.f l = some (enc (blks l)) := if_pos h
theorem size_f (l : List Int) (h : l.length ≤ 1000000) : cobs_Size.f l = some ((szs (blks l) : Nat) : Int) := if_pos h
theorem dec_f (l : List Int) (h : l.length ≤ 1000000) (hi : inByte l = true) : cobs_Decode.f l = some (decoded l) := if_pos ⟨h, hi⟩
end Go.Proofs.Ytmpampbpkcfdoaa.P
