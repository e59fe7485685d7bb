/- fence.Count: how many segments there are; cuneiformref06.Split in plain words. -/
import Derived.Test.YtnflobldekhjbaaLaws
import Derived.Test.YtnflobldekhjbaaExt
import Derived.RegionTactic
set_option linter.unusedVariables false
set_option linter.unusedSimpArgs false
namespace Go.Proofs.Ytnflobldekhjbaa
open Go.RowKit Go.Proofs.YtnflobldekhjbaaW.PrintWords
attribute [local go_sem] Oper.semAt_some
theorem wide_fn_eq' (f : FuncId) : Fence.wide.fn f = True := rfl
theorem wide_depth_eq' : Fence.wide.depth = none := rfl
attribute [local simp, local go_sem] wide_fn_eq' wide_depth_eq'

/-- How many there were so far, in a box. -/
def CountI (w : World) (Bk : Nat) (k : Nat) (W : World) : Prop := Boxed W Bk 3 (.int .i64 (k : Int)) ∧ Below w.heap.size w W

set_option maxRecDepth 100000 in
set_option maxHeartbeats 2000000 in
theorem fence_Count.calls (A0 : Option Addr) (c0 : Nat) (l0 : List Int) (w : World) (hr0 : Kd.C (Kd.int .u8) w A0 l0.length l0) (hc0 : l0.length ≤ c0) (hlen : l0.length ≤ 1000000) :
    Calls Try.prog 13 #[.slice A0 l0.length c0] w fun e w' => e = .returned (.int .i64 ((segs l0).length : Int)) ∧ Below w.heap.size w w' := by
  refine (callsIn_wide (n := 5)).1 (callsIn_of_wp_marks Try.func13 rfl trivial ?_ rfl)
  simp only [Try.ntmps13, List.size_toArray, List.length_cons, List.length_nil, Nat.reduceAdd, Nat.reduceSub, Array.replicate_succ, Array.replicate_zero, List.push_toArray, List.append_toArray, List.nil_append, List.cons_append]
  refine wpIn_wide.2 ?_
  go_wp2_with (go_at_call 12; refine (segments_call _ _ _ _ rfl _).mono ?_; rintro e w' ⟨rfl, rfl⟩)
  have hbW : Below w.heap.size w ((w.alloc (.cells #[.int .i64 0] 3)).alloc (.cells #[.slice A0 l0.length c0] 22)) := ((Below.refl _ w).alloc (Nat.le_refl _) _).alloc (by simp) _
  obtain ⟨w2, hw2⟩ : ∃ w2, ((w.alloc (.cells #[.int .i64 0] 3)).alloc (.cells #[.slice A0 l0.length c0] 22)) = w2 := ⟨_, rfl⟩
  have hs2 : w2.heap.size = w.heap.size + 2 := by rw [← hw2]; simp
  have bO : Boxed w2 w.heap.size 3 (.int .i64 0) := by rw [← hw2]; exact (Boxed.new w 3 (.int .i64 0)).alloc _
  have bB : Boxed w2 (w.heap.size + 1) 22 (.slice A0 l0.length c0) := by rw [← hw2]; have := Boxed.new (w.alloc (.cells #[.int .i64 0] 3)) 22 (.slice A0 l0.length c0); rwa [World.size_alloc] at this
  rw [hw2] at hbW ⊢
  have hsl : (segs l0).length ≤ 1000000 := Nat.le_trans (sgo_len _ _ _) hlen
  refine wp_range0 (gf := 17) (lb := #[.pointer (some ⟨w.heap.size + 1, 0, none⟩)]) rfl (enters_of Try.func17 (by kernel_rfl) rfl)
    (segments1 w w2 (w.heap.size + 1) A0 c0 l0 bB.cell hc0 hr0 hlen hbW) (fun b hb => by rcases hb with hb | hb <;> omega) (fun k vs T B W h => by obtain ⟨_, _, _, _, _, rfl, _⟩ := h; rfl)
    (CountI w w.heap.size) (fun _ _ _ => False) ?hI (fun _ _ _ _ h _ => h) ?h0 ?round ?done ?stop
  case hI =>
    rintro k W W' ⟨h1, h2⟩ hs
    exact ⟨boxed_stab h1 hs (fun h => h), hs.below h2 (by omega) h2.size (fun _ _ h => h)⟩
  case h0 => exact ⟨bO, hbW⟩
  case round =>
    rintro l n k T W0 X vs hk ⟨h1, h2⟩ hst ⟨at_, xs, v2, hseg, hat, rfl, hR⟩ hRb
    have HK := Lib.hid hk
    clear hseg hR hk
    gi_wp2
    refine ⟨Below.refl _ _, fun W2 hs => ?_⟩
    have hs02 := hst.trans hs (fun b h => h.elim)
    have b2 := boxed_stab h1 hs02 (fun h => h)
    have hB4 : Below w.heap.size w W2 := hs02.below h2 (by omega) h2.size (fun _ _ h => h)
    have c2 := b2.cell
    have f2 := b2.frozen
    have HS := Lib.hid hB4
    clear h1 h2 hs02 hB4 hst hs
    gi_wp2
    have e : wrap64 ((k : Int) + 1) = ((k + 1 : Nat) : Int) := by have := HK.out; unfold wrap64; omega
    try rw [e]
    exact ⟨Keep.setCell _ (by simp) _, Books.setCell _ _ _, b2.set _, HS.out.setCell (p := ⟨w.heap.size, 0, none⟩) (by simp) _⟩
  case done =>
    rintro D W ⟨h1, h2⟩ hD hd
    have hcb := h1.cell
    have HH := Lib.hid (And.intro h2 hd)
    clear h1 h2 hd
    go_wp2
    refine marks_ret (v := .int .i64 ((segs l0).length : Int)) (by simp [results, Try.results13, Act.put, go_sem]) (by simp [Act.put]) HH.out.2 ⟨rfl, ?_⟩
    exact (stab_shut (T := fun _ => False) (n := w.heap.size) HH.out.2 (by omega)).below HH.out.1 (Nat.le_refl _) HH.out.1.size (fun _ _ h => h)
  case stop =>
    rintro D c k W _ h
    exact h.elim

open Go.Proofs.Ytnflobldekhjbaa.P in
theorem rsplit_loop (l : List Int) (hlen : l.length ≤ 1000000) : ∀ (n i : Nat) (x5 : List (List Int)) (x6 x7 : List Int) (k : Nat), i + n = l.length → n < k → x5.length ≤ i → x6.length ≤ i → x7.length ≤ i →
    cuneiformref06_Split.l0 k l x5 x6 x7 (i : Int) = some (x5 ++ (sgo i x7 (l.drop i)).map (·.2), x6 ++ (sgo i x7 (l.drop i)).map (fun p => (p.1 : Int)), opn x7 (l.drop i))
  | 0, i, x5, x6, x7, k, hi, hk, h5, h6, h7 => by
    obtain ⟨k, rfl⟩ : ∃ j, k = j + 1 := ⟨k - 1, by omega⟩
    have hd : l.drop i = [] := List.drop_eq_nil_of_le (by omega)
    have hn : ¬ ((i : Int) < (l.length : Int)) := by omega
    rw [hd]
    simp only [cuneiformref06_Split.l0, if_neg hn, sgo, opn, List.map_nil, List.append_nil]
  | n + 1, i, x5, x6, x7, k, hi, hk, h5, h6, h7 => by
    obtain ⟨k, rfl⟩ : ∃ j, k = j + 1 := ⟨k - 1, by omega⟩
    have hn : (i : Int) < (l.length : Int) := by omega
    have hg : i < l.length := by omega
    have h0 : (0 : Int) ≤ (i : Int) := by omega
    have e : wrap64 ((i : Int) + 1) = ((i + 1 : Nat) : Int) := by unfold wrap64; omega
    have e2 : wrap64 ((i : Int) - (x7.length : Int)) = ((i - x7.length : Nat) : Int) := by unfold wrap64; omega
    have hd : l.drop i = l[i] :: l.drop (i + 1) := List.drop_eq_getElem_cons hg
    rw [sgo_at l i x7 hg, hd, rd_get hg]
    have hb5 : x5.length < 5864062014805 := by omega
    have hb6 : x6.length < 17592186044416 := by omega
    have hb7 : x7.length < 140737488355328 := by omega
    by_cases hz : l[i] = 0
    · by_cases hx : x7 = []
      · have hl : ¬ ((x7.length : Int) > 0) := by rw [hx]; simp
        simp only [cuneiformref06_Split.l0, if_pos hn, if_pos h0, rd_get hg, if_pos hz, if_neg hl, e]
        rw [rsplit_loop l hlen n (i + 1) x5 x6 [] k (by omega) (by omega) (by omega) (by omega) (by simp)]
        rw [hx, hz]
        simp [opn]
      · have hl : (x7.length : Int) > 0 := by have := List.length_pos_iff.2 hx; omega
        simp only [cuneiformref06_Split.l0, if_pos hn, if_pos h0, rd_get hg, if_pos hz, if_pos hl, if_pos hb5, if_pos hb6, e, e2, if_neg hx]
        rw [rsplit_loop l hlen n (i + 1) _ _ [] k (by omega) (by omega) (by simp; omega) (by simp; omega) (by simp)]
        rw [hz]
        simp [opn]
    · simp only [cuneiformref06_Split.l0, if_pos hn, if_pos h0, rd_get hg, if_neg hz, if_pos hb7, e]
      rw [rsplit_loop l hlen n (i + 1) x5 x6 (x7 ++ [l[i]]) k (by omega) (by omega) (by omega) (by omega) (by simp; omega)]
      simp [opn, hz]
open Go.Proofs.Ytnflobldekhjbaa.P in
theorem rsplit_f (l : List Int) (hlen : l.length ≤ 1000000) : cuneiformref06_Split.f (l.length + 1) l = some ((segs l).map (·.2), (segs l).map (fun p => (p.1 : Int)), opn [] l) := by
  unfold cuneiformref06_Split.f
  rw [show (0 : Int) = ((0 : Nat) : Int) from rfl, rsplit_loop l hlen l.length 0 [] [] [] (l.length + 1) (by omega) (by omega) (by simp) (by simp) (by simp)]
  simp [segs]
end Go.Proofs.Ytnflobldekhjbaa
