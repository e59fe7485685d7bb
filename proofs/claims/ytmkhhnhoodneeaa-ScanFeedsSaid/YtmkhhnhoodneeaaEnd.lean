/- scan: end. -/
import Derived.Test.YtmkhhnhoodneeaaAcc
import Derived.Deep.RegionLaw
import Derived.Deep.RegionHeld3
import Derived.RegionTactic
set_option linter.unusedVariables false
set_option linter.unusedSimpArgs false
namespace Go.Proofs.Ytmkhhnhoodneeaa
open Go.RowKit Go.Proofs.YtmkhhnhoodneeaaW.PrintWords Go.Proofs.YtmkhhnhoodneeaaW.PrintMore
attribute [local go_sem] Oper.semAt_some

/-- A block of four cells (a Segment). -/
def B4 (W : World) (b : Nat) (v0 v1 v2 v3 : Value) : Prop := W.heap[b]? = some (.cells #[v0, v1, v2, v3] 39 (0, 0))
section
variable {W : World} {b : Nat} {v0 v1 v2 v3 : Value}
theorem B4.c (h : B4 W b v0 v1 v2 v3) : W.cell? ⟨b, 0, none⟩ = some v0 ∧ W.cell? ⟨b, 1, none⟩ = some v1 ∧ W.cell? ⟨b, 2, none⟩ = some v2 ∧ W.cell? ⟨b, 3, none⟩ = some v3 := by
  have h' : W.heap[b]? = _ := h
  simp [World.cell?, h']
theorem B4.fz (h : B4 W b v0 v1 v2 v3) (o : Nat) : W.frozen? ⟨b, o, none⟩ = false := by
  have h' : W.heap[b]? = _ := h
  simp [World.frozen?, h']
theorem B4.s0 (h : B4 W b v0 v1 v2 v3) (v : Value) : B4 (W.setCell ⟨b, 0, none⟩ v) b v v1 v2 v3 := by
  have h' : W.heap[b]? = _ := h
  simp [B4, World.setCell, Array.getElem?_modify, h']
theorem B4.s1 (h : B4 W b v0 v1 v2 v3) (v : Value) : B4 (W.setCell ⟨b, 1, none⟩ v) b v0 v v2 v3 := by
  have h' : W.heap[b]? = _ := h
  simp [B4, World.setCell, Array.getElem?_modify, h']
theorem B4.s2 (h : B4 W b v0 v1 v2 v3) (v : Value) : B4 (W.setCell ⟨b, 2, none⟩ v) b v0 v1 v v3 := by
  have h' : W.heap[b]? = _ := h
  simp [B4, World.setCell, Array.getElem?_modify, h']
theorem B4.s3 (h : B4 W b v0 v1 v2 v3) (v : Value) : B4 (W.setCell ⟨b, 3, none⟩ v) b v0 v1 v2 v := by
  have h' : W.heap[b]? = _ := h
  simp [B4, World.setCell, Array.getElem?_modify, h']
end

set_option maxRecDepth 100000 in
set_option maxHeartbeats 4000000 in
theorem end_call (w : World) (g : Nat) (A : Option Addr) (c : Nat) (xs : List Int) (n fed : Nat) (hg : Scn w g (.slice A xs.length c) n fed) (hc : xs.length ≤ c) (hn : n ≤ fed) (hf : fed ≤ 1000000000) :
    Calls Try.prog 22 #[.pointer (some ⟨g, 0, none⟩)] w fun e w' => e = .returned (.tuple #[.agg #[.slice A xs.length xs.length, .bool (decide (255 < n)), .int .i64 n, .int .u64 ((fed - n : Nat) : Int)], .bool (decide (0 < n))]) ∧ Scn w' g (.slice none 0 0) 0 fed ∧ Stab (fun b => b = g) w.heap.size w w' := by
  have c0 := hg.c0
  have c1 := hg.c1
  have c2 := hg.c2
  have hgl := hg.lt
  have hcl : (xs.length ≤ c) = True := eq_true hc
  have e1 : wrap64 (n : Int) = (n : Int) := by unfold wrap64; omega
  have e2 : IntKind.u64.wrap (n : Int) = (n : Int) := by unfold IntKind.wrap; simp [IntKind.signed, IntKind.bits]; omega
  have e3 : IntKind.u64.wrap ((fed : Int) - (n : Int)) = ((fed - n : Nat) : Int) := by unfold IntKind.wrap; simp [IntKind.signed, IntKind.bits]; omega
  go_enter Try.func22, Try.ntmps22
  go_wp2_with (fail)
  go_big_region
  obtain ⟨X, hX⟩ : ∃ X, ((w.alloc (.cells #[.slice none 0 0, .bool false, .int .i64 0, .int .u64 0] 39)).alloc (.cells #[.slice A xs.length xs.length, .bool (decide (255 < (n : Int))), .int .i64 n, .int .u64 ((fed - n : Nat) : Int)] 39)).drew = X := ⟨_, rfl⟩
  have bX : Below w.heap.size w X := by rw [← hX]; exact (((Below.refl _ w).alloc (Nat.le_refl _) _).alloc (by simp) _).drew
  have hsX : X.heap.size = w.heap.size + 2 := by rw [← hX]; simp
  have bR : B4 X w.heap.size (.slice none 0 0) (.bool false) (.int .i64 0) (.int .u64 0) := by
    rw [← hX]; exact (Below.heap_alloc _ _ _ (by simp)).trans (World.alloc_heap_new w _)
  have bS : B4 X (w.heap.size + 1) (.slice A xs.length xs.length) (.bool (decide (255 < (n : Int)))) (.int .i64 n) (.int .u64 ((fed - n : Nat) : Int)) := by
    rw [← hX]; have := World.alloc_heap_new (w.alloc (.cells #[.slice none 0 0, .bool false, .int .i64 0, .int .u64 0] 39)) (.cells #[.slice A xs.length xs.length, .bool (decide (255 < (n : Int))), .int .i64 n, .int .u64 ((fed - n : Nat) : Int)] 39); rwa [World.size_alloc] at this
  have gX : Scn X g (.slice A xs.length c) n fed := (bX.block g hgl).trans hg
  rw [hX]
  clear hX c0 c1 c2 hg e1 e2 e3
  have hbb : decide (255 < (n : Int)) = decide (255 < n) := by rw [decide_eq_decide]; omega
  have HBB := Lib.hid hbb
  clear hbb
  generalize decide (255 < (n : Int)) = bb at *
  go_wp2_with (fail)
  refine (reset_call X g _ _ _ gX).mono ?_
  rintro e Y ⟨⟨v, rfl⟩, gY, sY⟩
  have rY : B4 Y w.heap.size _ _ _ _ := sY.block bR (by omega) rfl
  have sY2 : B4 Y (w.heap.size + 1) _ _ _ _ := sY.block bS (by omega) rfl
  have hsY : w.heap.size + 2 ≤ Y.heap.size := by have := sY.size; omega
  have sw : Stab (fun b => b = g) w.heap.size w Y := (Stab.of_below (T := fun b => b = g) bX).trans ⟨sY.os, sY.tape, sY.output, sY.size, fun k o h1 h2 _ => sY.same k o h1 h2 (.inr (Array.getElem?_eq_some_iff.1 h1).1)⟩ (fun b hb => .inl hb)
  clear bX bR bS gX sY hsX
  obtain ⟨x0, x1, x2, x3⟩ := sY2.c
  have r1 := rY.s0 (.slice A xs.length xs.length)
  have r2 := r1.s1 (.bool (bb))
  have r3 := r2.s2 (.int .i64 n)
  have r4 := r3.s3 (.int .u64 ((fed - n : Nat) : Int))
  have q0 := rY.c.1
  have q1 := r1.c.2.1
  have q2 := r2.c.2.2.1
  have q3 := r3.c.2.2.2
  have f0 := rY.fz 0
  have f1 := r1.fz 1
  have f2 := r2.fz 2
  have f3 := r3.fz 3
  have hgw : g ≠ w.heap.size := by omega
  have z1 : Scn ((((Y.setCell ⟨w.heap.size, 0, none⟩ (.slice A xs.length xs.length)).setCell ⟨w.heap.size, 1, none⟩ (.bool (bb))).setCell ⟨w.heap.size, 2, none⟩ (.int .i64 n)).setCell ⟨w.heap.size, 3, none⟩ (.int .u64 ((fed - n : Nat) : Int))) g (.slice none 0 0) 0 fed :=
    (Below.heap_setCell _ _ _ _ hgw).trans ((Below.heap_setCell _ _ _ _ hgw).trans ((Below.heap_setCell _ _ _ _ hgw).trans ((Below.heap_setCell _ _ _ _ hgw).trans gY)))
  have hT : ∀ (V : World) (p : Addr) (v : Value), p.block = w.heap.size → Stab (fun b => b = w.heap.size) w.heap.size V (V.setCell p v) := fun V p v h => Stab.setT (T := fun b => b = w.heap.size) V h v
  have z2 : Stab (fun b => b = g) w.heap.size w ((((Y.setCell ⟨w.heap.size, 0, none⟩ (.slice A xs.length xs.length)).setCell ⟨w.heap.size, 1, none⟩ (.bool (bb))).setCell ⟨w.heap.size, 2, none⟩ (.int .i64 n)).setCell ⟨w.heap.size, 3, none⟩ (.int .u64 ((fed - n : Nat) : Int))) :=
    sw.trans ((((hT Y ⟨w.heap.size, 0, none⟩ _ rfl).trans (hT _ ⟨w.heap.size, 1, none⟩ _ rfl) (fun b hb => .inl hb)).trans (hT _ ⟨w.heap.size, 2, none⟩ _ rfl) (fun b hb => .inl hb)).trans (hT _ ⟨w.heap.size, 3, none⟩ _ rfl) (fun b hb => .inl hb)) (fun b hb => .inr (by omega))
  obtain ⟨y0, y1, y2, y3⟩ := r4.c
  have HF := Lib.hid (And.intro z1 z2)
  have HY := Lib.hid (And.intro y0 (And.intro y1 (And.intro y2 y3)))
  clear z1 z2 hT r1 r2 r3 r4 rY sY2 sw gY y0 y1 y2 y3 hsY
  go_wp2_with (fail)
  obtain ⟨y0, y1, y2, y3⟩ := HY.out
  refine bodyPost_ret (v := .tuple #[.agg #[.slice A xs.length xs.length, .bool bb, .int .i64 n, .int .u64 ((fed - n : Nat) : Int)], .bool (decide (0 < n))]) (by simp [results, Try.results22, go_sem, y0, y1, y2, y3]) rfl ⟨by rw [HBB.out], HF.out.1, HF.out.2⟩
end Go.Proofs.Ytmkhhnhoodneeaa
