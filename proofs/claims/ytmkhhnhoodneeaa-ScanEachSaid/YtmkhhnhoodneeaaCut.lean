/- scan: plain laws of one segment's end; a piece of a row of segments. -/
import Derived.Test.YtmkhhnhoodneeaaLiv
set_option linter.unusedVariables false
set_option linter.unusedSimpArgs false
namespace Go.Proofs.Ytmkhhnhoodneeaa
open Go.RowKit Go.Proofs.YtmkhhnhoodneeaaW.PrintWords Go.Proofs.YtmkhhnhoodneeaaW.PrintMore

/-- Behind the k-th segment's end the rest is told as behind a fresh start. -/
theorem sgs_cut : ∀ (l xs : List Int) (n fed k : Nat) (s : P.S39), n ≤ fed → (sgs xs n fed l)[k]? = some s →
    ∃ e : Nat, e ≤ l.length ∧ s.f3 + s.f2 + 1 = ((fed + e : Nat) : Int) ∧ sgs [] 0 (fed + e) (l.drop e) = (sgs xs n fed l).drop (k + 1) ∧ hld [] 0 (l.drop e) = hld xs n l
  | [], xs, n, fed, k, s, hn, h => by simp [sgs] at h
  | c :: l, xs, n, fed, k, s, hn, h => by
    simp only [sgs, hld] at h ⊢
    by_cases hc : c = 0
    · rw [if_pos hc] at h ⊢
      rw [if_pos hc]
      by_cases h0 : n = 0
      · rw [if_pos h0] at h ⊢
        obtain ⟨e, h1, h2, h3, h4⟩ := sgs_cut l [] 0 (fed + 1) k s (by omega) h
        exact ⟨e + 1, by simp; omega, by rw [h2]; congr 1; omega, by rw [List.drop_succ_cons, ← h3]; congr 1; omega, by rw [List.drop_succ_cons, h4]⟩
      · rw [if_neg h0] at h ⊢
        cases k with
        | zero =>
          have hs : (⟨xs, decide (255 < n), (n : Int), ((fed - n : Nat) : Int)⟩ : P.S39) = s := by simpa using h
          subst hs
          refine ⟨1, by simp, by show ((fed - n : Nat) : Int) + (n : Int) + 1 = _; omega, by simp, by simp⟩
        | succ k =>
          rw [List.getElem?_cons_succ] at h
          obtain ⟨e, h1, h2, h3, h4⟩ := sgs_cut l [] 0 (fed + 1) k s (by omega) h
          exact ⟨e + 1, by simp; omega, by rw [h2]; congr 1; omega, by rw [List.drop_succ_cons, List.drop_succ_cons, ← h3]; congr 1; omega, by rw [List.drop_succ_cons, h4]⟩
    · rw [if_neg hc] at h ⊢
      rw [if_neg hc]
      obtain ⟨e, h1, h2, h3, h4⟩ := sgs_cut l _ (n + 1) (fed + 1) k s (by omega) h
      exact ⟨e + 1, by simp; omega, by rw [h2]; congr 1; omega, by rw [List.drop_succ_cons, ← h3]; congr 1; omega, by rw [List.drop_succ_cons, h4]⟩
/-- A piece of a slice that is read, whatever its elements' size. -/
theorem C_piece' {α : Type} {d : Kd α} {W : World} {ad : Addr} {n : Nat} {xs : List α} (h : d.C W (some ad) n xs) (i m : Nat) (hm : i + m ≤ n) : d.C W (some (ad.add (i * d.sz))) m ((xs.drop i).take m) := by
  have hl := h.1
  refine ⟨by simp; omega, by have := h.2.1; omega, fun hp => ⟨_, rfl, fun j p hj => ?_⟩⟩
  obtain ⟨ad', e, hc⟩ := h.2.2 (by omega)
  cases e
  have hjm : j < m := by
    have := (List.getElem?_eq_some_iff.1 hj).1
    simp at this; omega
  obtain ⟨c, hc1, hc2, hc3⟩ := hc (i + j) p (by rw [List.getElem?_take, if_pos hjm, List.getElem?_drop] at hj; exact hj)
  refine ⟨c, hc1, hc2, fun q u hu => ?_⟩
  have := hc3 q u hu
  rw [Addr.add_add, ← Nat.add_assoc, ← Nat.add_mul]
  exact this
/-- What lies at Y lies on, but for two blocks. -/
theorem Stab.two {T : Nat → Prop} {g m : Nat} {Y W W' : World} (h : Stab (fun b => b = g ∨ b = m) Y.heap.size Y W) (hs : Stab T Y.heap.size W W') (hT : ∀ b, T b → b = g ∨ Y.heap.size ≤ b) : Stab (fun b => b = g ∨ b = m) Y.heap.size Y W' :=
  h.trans hs (fun b hb => by rcases hT b hb with h1 | h1; exact .inl (.inl h1); exact .inr h1)
end Go.Proofs.Ytmkhhnhoodneeaa
