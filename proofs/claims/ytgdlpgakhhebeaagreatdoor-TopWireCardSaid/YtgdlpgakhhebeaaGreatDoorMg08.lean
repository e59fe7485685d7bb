/- Part 8 of the proof of TopWire: Plain2. -/
import Derived.Test.YtgdlpgakhhebeaaGreatDoorMg07
set_option linter.unusedVariables false
namespace Go.Proofs.YtgdlpgakhhebeaaGreatDoor
open Go.RowKit Go.Proofs.YtgdlpgakhhebeaaGreatDoorW.PrintWords

theorem C_take {α : Type} {d : Kd α} {W : World} {A : Option Addr} {n m : Nat} {xs : List α} (h : d.C W A n xs) (hm : m ≤ n) : d.C W A m (xs.take m) := by
  have hl := h.1
  refine ⟨by simp; omega, by have := h.2.1; omega, fun hp => ?_⟩
  obtain ⟨ad, e, hc⟩ := h.2.2 (by omega)
  exact ⟨ad, e, fun j p hj => hc j p (by
    have hjm : j < m := by
      have := (List.getElem?_eq_some_iff.1 hj).1
      simp at this; omega
    rwa [List.getElem?_take, if_pos hjm] at hj)⟩
end Go.Proofs.YtgdlpgakhhebeaaGreatDoor
