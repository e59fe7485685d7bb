import Derived.Test.YtdgphdkebegidaaPx3
import Derived.Test.YtdgphdkebegidaaAri
namespace Go.Proofs.Ytdgphdkebegidaa.Pure
set_option linter.unusedVariables false
set_option linter.unusedSimpArgs false
open Go.RowKit Go.Proofs.Ytdgphdkebegidaa.P Go.Proofs.Ytdgphdkebegidaa.Ext Go.Proofs.YtdgphdkebegidaaW.PrintWords Go.Proofs.YtdgphdkebegidaaW.PrintLast Go.Proofs.YtdgphdkebegidaaW.PrintMore

theorem rd_nat {l : List Int} {k : Nat} (h : k < l.length) : rd l (k : Int) = l[k] := by simp [rd, List.getD_eq_getElem?_getD, List.getElem?_eq_getElem h]

theorem best_loop (l : List Int) (b : Bool) (hl : ∀ x ∈ l, 0 ≤ x ∧ x < 4294967296) (hs : l.length ≤ 1000000) : ∀ (n i : Nat) (x : Int) (k : Nat), i + n = l.length → n < k → (0 ≤ x ∧ x < 4294967296) →
    cuneiformref10_Best.l0 k l b x i = some (takes (if b then aft else fun a c => aft c a) x (l.drop i), true)
  | 0, i, x, k, hi, hk, hx => by
    obtain ⟨k, rfl⟩ : ∃ j, k = j + 1 := ⟨k - 1, by omega⟩
    have hd : l.drop i = [] := List.drop_eq_nil_of_le (by omega)
    rw [hd]
    have hn : ¬ ((i : Int) < (l.length : Int)) := by omega
    simp only [cuneiformref10_Best.l0, if_neg hn, takes, List.foldl_nil]
  | n + 1, i, x, k, hi, hk, hx => by
    obtain ⟨k, rfl⟩ : ∃ j, k = j + 1 := ⟨k - 1, by omega⟩
    have hn : (i : Int) < (l.length : Int) := by omega
    have hg : i < l.length := by omega
    have e : wrap64 ((i : Int) + 1) = ((i + 1 : Nat) : Int) := by unfold wrap64; omega
    have hm := hl _ (List.getElem_mem hg)
    have hd : l.drop i = l[i] :: l.drop (i + 1) := List.drop_eq_getElem_cons hg
    have h0 : (0 : Int) ≤ (i : Int) := by omega
    rw [hd]
    simp only [cuneiformref10_Best.l0, if_pos hn, if_pos h0, rd_nat hg, rAfter_eq _ _ hm hx, rAfter_eq _ _ hx hm, Option.bind_some, e,
      best_loop l b hl hs n (i + 1) x k (by omega) (by omega) hx, best_loop l b hl hs n (i + 1) l[i] k (by omega) (by omega) hm]
    cases b
    · simp only [Bool.false_eq_true, if_false, takes, List.foldl_cons, aft_eq]
      split <;> rfl
    · simp only [if_true, takes, List.foldl_cons, aft_eq]
      split <;> rfl

theorem best_eq (l : List Int) (b : Bool) (hl : ∀ x ∈ l, 0 ≤ x ∧ x < 4294967296) (hs : l.length ≤ 1000000) (k : Nat) (hk : l.length ≤ k) :
    cuneiformref10_Best.f k l b = some (tak (if b then aft else fun a c => aft c a) l) := by
  unfold cuneiformref10_Best.f
  cases l with
  | nil => simp [tak]
  | cons x r =>
    have h1 : ¬ (((x :: r).length : Int) = 0) := by simp only [List.length_cons]; omega
    have h2 : (0 : Int) < ((x :: r).length : Int) := by simp only [List.length_cons]; omega
    rw [if_neg h1, if_pos h2]
    have hr : rd (x :: r) 0 = x := by simp [rd]
    rw [hr, show (1 : Int) = ((1 : Nat) : Int) from rfl, best_loop (x :: r) b hl hs r.length 1 x k (by simp only [List.length_cons]; omega) (by simp only [List.length_cons] at hk; omega) (hl x (by simp))]
    simp [tak]

theorem SerialBest : cuneiformlaw10_SerialBest.Pure := by
  intro l _ _ hl
  refine ⟨60, ?_⟩
  unfold cuneiformlaw10_SerialBest.f
  have hm : 0 ≤ mn (l.length : Int) 60 ∧ mn (l.length : Int) 60 ≤ (l.length : Int) ∧ mn (l.length : Int) 60 ≤ 60 := by
    unfold mn; split <;> omega
  rw [if_pos hm.1, if_pos hm.2.1]
  have hs : (l.take (mn (l.length : Int) 60).toNat).length ≤ 60 := by
    rw [List.length_take]; omega
  have hb : ∀ x ∈ l.take (mn (l.length : Int) 60).toNat, 0 ≤ x ∧ x < 4294967296 := fun x hx => u32_of (hl x (List.mem_of_mem_take hx))
  generalize l.take (mn (l.length : Int) 60).toNat = s at hs hb
  rw [best_eq s true hb (by omega) 60 hs, best_eq s false hb (by omega) 60 hs]
  have hN : serial_Newest.f s = some (tak aft s) := by unfold serial_Newest.f; rw [if_pos (by omega)]
  have hO : serial_Oldest.f s = some (tak (fun a c => aft c a) s) := by unfold serial_Oldest.f; rw [if_pos (by omega)]
  rw [hN, hO, known_true]
  simp

end Go.Proofs.Ytdgphdkebegidaa.Pure
