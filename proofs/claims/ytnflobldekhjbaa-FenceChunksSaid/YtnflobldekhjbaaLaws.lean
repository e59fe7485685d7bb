/- Plain laws: what the printed functions answer. -/
import Derived.Test.YtnflobldekhjbaaPx1
set_option linter.unusedVariables false
namespace Go.Proofs.Ytnflobldekhjbaa.P
open Go.RowKit Go.Proofs.YtnflobldekhjbaaW.PrintWords Go.Proofs.YtnflobldekhjbaaW.PrintMore Go.Proofs.Ytnflobldekhjbaa.Ext Go.Proofs.Ytnflobldekhjbaa

theorem known_true : ∃ k, cuneiformlaw06_known.f k = some true := ⟨10, by decide +kernel⟩

theorem same_loop (a : List Int) (hn : a.length ≤ 9000000000000000000) : ∀ (d k : Nat) (i : Nat), i + d = a.length → d < k → cuneiformref01_Same.l0 k a a (i : Int) = some true := by
  intro d
  induction d with
  | zero =>
    intro k i hi hk
    obtain ⟨k, rfl⟩ : ∃ m, k = m + 1 := ⟨k - 1, by omega⟩
    simp only [cuneiformref01_Same.l0]
    rw [if_neg (by omega)]
  | succ d ih =>
    intro k i hi hk
    obtain ⟨k, rfl⟩ : ∃ m, k = m + 1 := ⟨k - 1, by omega⟩
    simp only [cuneiformref01_Same.l0]
    have h1 : (i : Int) < (a.length : Int) := by omega
    have h2 : (0 : Int) ≤ (i : Int) := by omega
    simp only [if_pos h1, if_pos h2, if_true]
    have e : wrap64 ((i : Int) + 1) = ((i + 1 : Nat) : Int) := by unfold wrap64; omega
    rw [e]
    exact ih k (i + 1) (by omega) (by omega)
theorem same_self (a : List Int) (hn : a.length ≤ 9000000000000000000) (k : Nat) (hk : a.length < k) : cuneiformref01_Same.f k a a = some true := by
  unfold cuneiformref01_Same.f
  rw [if_pos rfl]
  exact same_loop a hn a.length k 0 (by omega) hk
theorem lists_loop (a : List (List Int)) (M : Nat) (hM : M ≤ 9000000000000000000) (hn : a.length ≤ 9000000000000000000) (hl : ∀ x ∈ a, x.length ≤ M) : ∀ (d k : Nat) (i : Nat), i + d = a.length → d + M + 1 < k → cuneiformlaw06_Lists.l0 k a a (i : Int) = some true := by
  intro d
  induction d with
  | zero =>
    intro k i hi hk
    obtain ⟨k, rfl⟩ : ∃ m, k = m + 1 := ⟨k - 1, by omega⟩
    simp only [cuneiformlaw06_Lists.l0]
    rw [if_neg (by omega)]
  | succ d ih =>
    intro k i hi hk
    obtain ⟨k, rfl⟩ : ∃ m, k = m + 1 := ⟨k - 1, by omega⟩
    simp only [cuneiformlaw06_Lists.l0]
    have h1 : (i : Int) < (a.length : Int) := by omega
    have h2 : (0 : Int) ≤ (i : Int) := by omega
    have hx : (rd_L1 a (i : Int)).length ≤ M := by
      have : rd_L1 a (i : Int) = a[i]'(by omega) := by simp [rd_L1, List.getD_eq_getElem?_getD, List.getElem?_eq_getElem (show i < a.length by omega)]
      rw [this]
      exact hl _ (List.getElem_mem _)
    rw [if_pos h1, if_pos h2, if_pos h1, same_self _ (by omega) k (by omega)]
    have e : wrap64 ((i : Int) + 1) = ((i + 1 : Nat) : Int) := by unfold wrap64; omega
    simp only [Option.bind_some, if_true]
    rw [e]
    exact ih k (i + 1) (by omega) (by omega)
theorem lists_self (a : List (List Int)) (M : Nat) (hM : M ≤ 9000000000000000000) (hn : a.length ≤ 9000000000000000000) (hl : ∀ x ∈ a, x.length ≤ M) (k : Nat) (hk : a.length + M + 1 < k) : cuneiformlaw06_Lists.f k a a = some true := by
  unfold cuneiformlaw06_Lists.f
  rw [if_pos rfl]
  exact lists_loop a M hM hn hl a.length k 0 (by omega) hk

theorem sgo_at_any : ∀ (r : List Int) (i j : Nat) (cur : List Int), (sgo i cur r).map (·.2) = (sgo j cur r).map (·.2)
  | [], _, _, _ => rfl
  | c :: r, i, j, cur => by
    unfold sgo
    split
    · split
      · exact sgo_at_any r _ _ _
      · simp only [List.map_cons]; rw [sgo_at_any r (i + 1) (j + 1)]
    · exact sgo_at_any r _ _ _
theorem sgo_zero : ∀ (p r : List Int) (i j : Nat) (cur : List Int), (sgo i cur (p ++ 0 :: r)).map (·.2) = (sgo i cur (p ++ [0])).map (·.2) ++ (sgo j [] r).map (·.2)
  | [], r, i, j, cur => by
    simp only [List.nil_append, sgo, if_true]
    split
    · simp; exact sgo_at_any r _ _ _
    · simp; exact sgo_at_any r _ _ _
  | c :: p, r, i, j, cur => by
    simp only [List.cons_append, sgo]
    split
    · split
      · exact sgo_zero p r _ _ _
      · simp only [List.map_cons, List.cons_append]; rw [sgo_zero p r (i + 1) j]
    · exact sgo_zero p r _ _ _
theorem segs_join (a b : List Int) : (segs (a ++ 0 :: b)).map (·.2) = (segs (a ++ [0])).map (·.2) ++ (segs b).map (·.2) := sgo_zero a b 0 0 []
theorem opn_join (a b : List Int) : opn [] (a ++ 0 :: b) = opn [] b := opn_zero a b []
theorem opn_len : ∀ (r cur : List Int), (opn cur r).length ≤ cur.length + r.length
  | [], cur => by simp [opn]
  | c :: r, cur => by
    unfold opn
    split
    · have := opn_len r []; simp at this ⊢; omega
    · have := opn_len r (cur ++ [c]); simp at this ⊢; omega
theorem sgo_mem : ∀ (r : List Int) (i : Nat) (cur : List Int) (x : Nat × List Int), x ∈ sgo i cur r → x.2.length ≤ cur.length + r.length
  | [], _, _, x, h => by simp [sgo] at h
  | c :: r, i, cur, x, h => by
    unfold sgo at h
    split at h
    · split at h
      · have := sgo_mem r _ _ x h; simp at this ⊢; omega
      · rcases List.mem_cons.1 h with rfl | h
        · simp
        · have := sgo_mem r _ _ x h; simp at this ⊢; omega
    · have := sgo_mem r _ _ x h; simp at this ⊢; omega
end Go.Proofs.Ytnflobldekhjbaa.P
