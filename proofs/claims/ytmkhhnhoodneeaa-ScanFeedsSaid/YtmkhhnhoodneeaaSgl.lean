/- Plain laws of segments: one part behind the other. -/
import Derived.Test.YtmkhhnhoodneeaaFdc
set_option linter.unusedVariables false
namespace Go.Proofs.Ytmkhhnhoodneeaa
theorem sgs_app : ∀ (a b xs : List Int) (n fed : Nat), sgs xs n fed (a ++ b) = sgs xs n fed a ++ sgs (hld xs n a).1 (hld xs n a).2 (fed + a.length) b
  | [], b, xs, n, fed => by simp [sgs, hld]
  | c :: a, b, xs, n, fed => by
    have e : fed + 1 + a.length = fed + (c :: a).length := by simp only [List.length_cons]; omega
    simp only [List.cons_append, sgs, hld]
    by_cases hc : c = 0
    · rw [if_pos hc, if_pos hc, if_pos hc]
      by_cases hn : n = 0
      · rw [if_pos hn, if_pos hn, sgs_app a b [] 0 (fed + 1), e]
      · rw [if_neg hn, if_neg hn, sgs_app a b [] 0 (fed + 1), e]; rfl
    · rw [if_neg hc, if_neg hc, if_neg hc, sgs_app a b (tk xs n c) (n + 1) (fed + 1), e]
theorem hld_app : ∀ (a b xs : List Int) (n : Nat), hld xs n (a ++ b) = hld (hld xs n a).1 (hld xs n a).2 b
  | [], b, xs, n => by simp [hld]
  | c :: a, b, xs, n => by
    simp only [List.cons_append, hld]
    by_cases hc : c = 0
    · rw [if_pos hc, if_pos hc, hld_app a b [] 0]
    · rw [if_neg hc, if_neg hc, hld_app a b (tk xs n c) (n + 1)]
/-- Bytes fed so many later. -/
def lat (d : Nat) (s : P.S39) : P.S39 := ⟨s.f0, s.f1, s.f2, s.f3 + (d : Int)⟩
theorem sgs_lat : ∀ (l xs : List Int) (n fed d : Nat), n ≤ fed → sgs xs n (fed + d) l = (sgs xs n fed l).map (lat d)
  | [], xs, n, fed, d, h => by simp [sgs]
  | c :: l, xs, n, fed, d, h => by
    have e : fed + d + 1 = fed + 1 + d := by omega
    simp only [sgs]
    by_cases hc : c = 0
    · rw [if_pos hc, if_pos hc]
      by_cases hn : n = 0
      · rw [if_pos hn, if_pos hn, e, sgs_lat l [] 0 (fed + 1) d (by omega)]
      · rw [if_neg hn, if_neg hn, List.map_cons, e, sgs_lat l [] 0 (fed + 1) d (by omega)]
        have e2 : ((fed + d - n : Nat) : Int) = ((fed - n : Nat) : Int) + (d : Int) := by omega
        rw [e2]; rfl
    · rw [if_neg hc, if_neg hc, e, sgs_lat l (tk xs n c) (n + 1) (fed + 1) d (by omega)]
end Go.Proofs.Ytmkhhnhoodneeaa
