/- Part 20 of the proof of TopWire: Mpj. -/
import Derived.Test.YtgdlpgakhhebeaaGreatDoorMg19
set_option linter.unusedVariables false
set_option linter.unusedSimpArgs false
namespace Go.Proofs.YtgdlpgakhhebeaaGreatDoor
open Go.RowKit Go.Proofs.YtgdlpgakhhebeaaGreatDoorW.PrintWords Go.Proofs.YtgdlpgakhhebeaaGreatDoorW.PrintMore
attribute [local go_sem] Oper.semAt_some

/-- A message as a version tells it. -/
def prjF (v : Int) (m : Ms) (f : P.S150) : Ms := if v ≠ 1 ∨ f.f5 = 1 then m else if 0 ≤ f.f2 then setN (withoutM m f) f.f2 f.f6 else withoutM m f
def prjM (m : Ms) (v : Int) : Ms := (flds m.k).foldl (prjF v) m
theorem foldl_at {α β : Type} (F : β → α → β) (l : List α) (j : Nat) (h : j < l.length) (x : β) : (l.drop j).foldl F x = (l.drop (j + 1)).foldl F (F x l[j]) := by
  rw [List.drop_eq_getElem_cons h, List.foldl_cons]
theorem flds_lt (k : Int) : ∀ f ∈ flds k, f.f2 < 6 := by
  rcases flds_kind k with (rfl | rfl | rfl | rfl | rfl) | h
  · exact (by decide : ∀ f ∈ flds 1, f.f2 < 6)
  · exact (by decide : ∀ f ∈ flds 2, f.f2 < 6)
  · exact (by decide : ∀ f ∈ flds 3, f.f2 < 6)
  · exact (by decide : ∀ f ∈ flds 4, f.f2 < 6)
  · exact (by decide : ∀ f ∈ flds 5, f.f2 < 6)
  · rw [h]; intro f hf; cases hf
theorem Rw.msm {w : World} {base : Nat} {m m' : Ms} {Ap Ac Ap' Ac' : Option Addr} {cp cc cp' cc' : Nat} (h : MsM w base m Ap cp Ac cc) (hp : Rw m.path Ap cp m'.path Ap' cp') (hc : Rw m.cells Ac cc m'.cells Ac' cc') : MsM w base m' Ap' cp' Ac' cc' := by
  refine ⟨?_, ?_⟩
  · rcases hp with ⟨e, rfl, rfl⟩ | ⟨e, rfl, rfl⟩ <;> rw [e]
    · exact h.1
    · exact Kd.R_nil _ _ _ _ _
  · rcases hc with ⟨e, rfl, rfl⟩ | ⟨e, rfl, rfl⟩ <;> rw [e]
    · exact h.2
    · exact Kd.R_nil _ _ _ _ _
theorem MsM.below {w w' : World} {base : Nat} {m : Ms} {Ap Ac : Option Addr} {cp cc : Nat} (h : MsM w base m Ap cp Ac cc) (hb : Below w.heap.size w w') : MsM w' base m Ap cp Ac cc := ⟨Kd.R_below h.1 hb, Kd.R_below h.2 hb⟩
theorem MsM.stab {w w' : World} {base b n : Nat} {m : Ms} {Ap Ac : Option Addr} {cp cc : Nat} (h : MsM w base m Ap cp Ac cc) (hs : Stab (fun x => x = b) n w w') (hb : b < base) : MsM w' base m Ap cp Ac cc := ⟨Stab.R h.1 hs hb, Stab.R h.2 hs hb⟩
theorem MsM.lower {w : World} {base base' : Nat} {m : Ms} {Ap Ac : Option Addr} {cp cc : Nat} (h : MsM w base m Ap cp Ac cc) (hb : base' ≤ base) : MsM w base' m Ap cp Ac cc := ⟨Kd.R_lower h.1 hb, Kd.R_lower h.2 hb⟩
theorem MsM.setN {w : World} {base : Nat} {m : Ms} {Ap Ac : Option Addr} {cp cc : Nat} (h : MsM w base m Ap cp Ac cc) (p v : Int) : MsM w base (setN m p v) Ap cp Ac cc := by
  unfold Go.Proofs.YtgdlpgakhhebeaaGreatDoor.setN
  repeat' split
  all_goals exact h
set_option maxRecDepth 100000 in
set_option maxHeartbeats 4000000 in
theorem project_call (m : Ms) (v : Int) (w : World) (Ap : Option Addr) (cp : Nat) (Ac : Option Addr) (cc : Nat) (h : MsR w m Ap cp Ac cc) (hm : Fit m) :
    Calls Tryz.prog 43 #[mV m Ap cp Ac cc, .int .i64 v] w fun e w' => ∃ Bp bp Bc bc, e = .returned (mV (prjM m v) Bp bp Bc bc) ∧ MsM w' w.heap.size (prjM m v) Bp bp Bc bc ∧ Below w.heap.size w w' := by
  have HX : Hid (prjM m v = _) := Lib.hid (by unfold prjM; rfl)
  generalize prjM m v = R at *
  have HM := Lib.hid (And.intro h hm)
  clear h hm
  unfold mV Ms.cs
  go_enter Tryz.func43, Tryz.ntmps43
  go_wp2_with (fail)
  go_step3
  go_wp2_with (fail)
  refine (copy_call m _ Ap cp Ac cc (HM.out.1.below (((Below.refl _ w).alloc (Nat.le_refl _) _).alloc (by simp) _)) HM.out.2).mono ?_
  rintro e w1 ⟨Dp, dp, Dc, dc, rfl, hM, hb⟩
  have h0 := (hb.block w.heap.size (by simp; omega)).trans (al2_a w _ _)
  have h1 := (hb.block (w.heap.size + 1) (by simp)).trans (al2_b w _ _)
  have hB : Below w.heap.size w w1 := (((Below.refl _ w).alloc (Nat.le_refl _) _).alloc (by simp) _).trans (hb.mono (by simp; omega))
  have hM : MsM w1 (w.heap.size + 2) m Dp dp Dc dc := hM.lower (by simp)
  obtain ⟨s, hs⟩ : ∃ s, w.heap.size = s := ⟨_, rfl⟩
  rw [hs] at h0 h1 hM hB
  have HS := Lib.hid hs
  have H1 := Lib.hid (And.intro h0 (And.intro h1 (And.intro hM hB)))
  have q0 : w1.cell? ⟨s, 0, none⟩ = some (.int .i64 m.k) := cell_at h0 rfl
  have q1 : w1.cell? ⟨s, 1, none⟩ = some (.int .i64 m.n0) := cell_at h0 rfl
  have q2 : w1.cell? ⟨s, 2, none⟩ = some (.int .i64 m.n1) := cell_at h0 rfl
  have q3 : w1.cell? ⟨s, 3, none⟩ = some (.int .i64 m.n2) := cell_at h0 rfl
  have q4 : w1.cell? ⟨s, 4, none⟩ = some (.int .i64 m.n3) := cell_at h0 rfl
  have q5 : w1.cell? ⟨s, 5, none⟩ = some (.int .i64 m.n4) := cell_at h0 rfl
  have q6 : w1.cell? ⟨s, 6, none⟩ = some (.int .i64 m.n5) := cell_at h0 rfl
  have q7 : w1.cell? ⟨s, 7, none⟩ = some (.slice Ap m.path.length cp) := cell_at h0 rfl
  have q8 : w1.cell? ⟨s, 8, none⟩ = some (.slice Ac m.cells.length cc) := cell_at h0 rfl
  have q9 : w1.cell? ⟨s, 9, none⟩ = some (.string m.text) := cell_at h0 rfl
  have q10 : w1.cell? ⟨s, 10, none⟩ = some (.string m.tag) := cell_at h0 rfl
  have z0 : w1.frozen? ⟨s, 0, none⟩ = false := frozen_at h0
  have z1 : w1.frozen? ⟨s, 1, none⟩ = false := frozen_at h0
  have z2 : w1.frozen? ⟨s, 2, none⟩ = false := frozen_at h0
  have z3 : w1.frozen? ⟨s, 3, none⟩ = false := frozen_at h0
  have z4 : w1.frozen? ⟨s, 4, none⟩ = false := frozen_at h0
  have z5 : w1.frozen? ⟨s, 5, none⟩ = false := frozen_at h0
  have z6 : w1.frozen? ⟨s, 6, none⟩ = false := frozen_at h0
  have z7 : w1.frozen? ⟨s, 7, none⟩ = false := frozen_at h0
  have z8 : w1.frozen? ⟨s, 8, none⟩ = false := frozen_at h0
  have z9 : w1.frozen? ⟨s, 9, none⟩ = false := frozen_at h0
  have z10 : w1.frozen? ⟨s, 10, none⟩ = false := frozen_at h0
  clear h0 h1 hM hB hb
  rw [hs]
  clear hs
  unfold mV Ms.cs
  go_wp2_with (fail)
  show Code.wp _ _ _ _ (st11 w1 s (.int .i64 m.k) (.int .i64 m.n0) (.int .i64 m.n1) (.int .i64 m.n2) (.int .i64 m.n3) (.int .i64 m.n4) (.int .i64 m.n5) (.slice Dp m.path.length dp) (.slice Dc m.cells.length dc) (.string m.text) (.string m.tag))
  have hst : Stab (fun x => x = s) w1.heap.size w1 (st11 w1 s (.int .i64 m.k) (.int .i64 m.n0) (.int .i64 m.n1) (.int .i64 m.n2) (.int .i64 m.n3) (.int .i64 m.n4) (.int .i64 m.n5) (.slice Dp m.path.length dp) (.slice Dc m.cells.length dc) (.string m.text) (.string m.tag)) := st11_stab (W := w1) (b := s) (n := w1.heap.size) (.int .i64 m.k) (.int .i64 m.n0) (.int .i64 m.n1) (.int .i64 m.n2) (.int .i64 m.n3) (.int .i64 m.n4) (.int .i64 m.n5) (.slice Dp m.path.length dp) (.slice Dc m.cells.length dc) (.string m.text) (.string m.tag)
  have x0 := st11_heap H1.out.1 (.int .i64 m.k) (.int .i64 m.n0) (.int .i64 m.n1) (.int .i64 m.n2) (.int .i64 m.n3) (.int .i64 m.n4) (.int .i64 m.n5) (.slice Dp m.path.length dp) (.slice Dc m.cells.length dc) (.string m.text) (.string m.tag)
  generalize st11 w1 s (.int .i64 m.k) (.int .i64 m.n0) (.int .i64 m.n1) (.int .i64 m.n2) (.int .i64 m.n3) (.int .i64 m.n4) (.int .i64 m.n5) (.slice Dp m.path.length dp) (.slice Dc m.cells.length dc) (.string m.text) (.string m.tag) = X at hst x0 ⊢
  have x1 := hst.heap1 H1.out.2.1 (by omega)
  have x2 : MsM X (s + 2) m Dp dp Dc dc := H1.out.2.2.1.stab hst (by omega)
  have x3 : Below s w X := hst.one_below H1.out.2.2.2 (by have := H1.out.2.2.2.size; rw [HS.out] at this; exact this) (by have := H1.out.2.2.2.size; rw [HS.out] at this; exact this) (Nat.le_refl _)
  have x4 : s + 2 ≤ X.heap.size := (Array.getElem?_eq_some_iff.1 x1).1
  have HX1 := Lib.hid (And.intro x0 (And.intro x1 (And.intro x2 (And.intro x3 x4))))
  have p0 : X.cell? ⟨s, 0, none⟩ = some (.int .i64 m.k) := cell_at x0 rfl
  clear hst x0 x1 x2 x3 x4 q0 q1 q2 q3 q4 q5 q6 q7 q8 q9 q10 z0 z1 z2 z3 z4 z5 z6 z7 z8 z9 z10
  go_step3
  go_wp2_with (fail)
  refine (P.field_Of.calls m.k (flds m.k) _ (flds_some _)).mono ?_
  rintro e w2 ⟨vr, rfl, hR, hb⟩
  obtain ⟨x0, x1, x2, x3, x4⟩ := HX1.out
  obtain ⟨A, c, e0, hc, hC⟩ := Kd.R_reads hR
  subst e0
  have hLl : (flds m.k).length ≤ 6 := by
    rcases flds_kind m.k with (e | e | e | e | e) | e <;> rw [e] <;> decide
  have H2 := Lib.hid (And.intro ((hb.block s (Array.getElem?_eq_some_iff.1 x0).1).trans x0) (And.intro ((hb.block (s + 1) (Array.getElem?_eq_some_iff.1 x1).1).trans x1) (And.intro (x2.below hb) (And.intro (Kd.R_lower hR x4 : Kd.R P.k150 150 w2 (s + 2) (fun _ => True) (.slice A (flds m.k).length c) (flds m.k)) (And.intro (x3.trans (hb.mono (by omega))) (And.intro (Nat.le_trans x4 hb.size) (And.intro (flds_ok m.k) (flds_lt m.k))))))))
  generalize flds m.k = L at *
  obtain ⟨n, hn⟩ : ∃ n, L.length = n := ⟨_, rfl⟩
  have HN := Lib.hid hn
  rw [hn] at H2 hc hLl ⊢
  clear hR hb hC hn x0 x1 x2 x3 x4 H1 HX1 p0
  go_wp2_with (fail)
  go_loopw [6, 13] (fun fb i wr => ∃ (j : Nat) (le : Ms) (Bp : Option Addr) (bp : Nat) (Bc : Option Addr) (bc : Nat), i = .int .i64 (j : Int) ∧ j ≤ n ∧
      Hid (L.foldl (prjF v) m = (L.drop j).foldl (prjF v) le ∧ wr.heap[s]? = some (.cells (le.cs Bp bp Bc bc) 69) ∧ wr.heap[s + 1]? = some (.cells #[.int .i64 0, .int .i64 0, .int .i64 0, .int .i64 0, .int .i64 0, .int .i64 0, .int .i64 0, .slice none 0 0, .slice none 0 0, .string ⟨#[]⟩, .string ⟨#[]⟩] 69) ∧ MsM wr (s + 2) le Bp bp Bc bc ∧ Kd.R P.k150 150 wr (s + 2) (fun _ => True) (.slice A n c) L ∧ Below s w wr ∧ s + 2 ≤ wr.heap.size))
    (fun _ i _ => n - (intV i).toNat)
  case atStart => exact ⟨0, m, Dp, dp, Dc, dc, rfl, Nat.zero_le _, Lib.hid ⟨rfl, H2.out.1, H2.out.2.1, H2.out.2.2.1, H2.out.2.2.2.1, H2.out.2.2.2.2.1, H2.out.2.2.2.2.2.1⟩⟩
  case round =>
    obtain ⟨j, le, Bp, bp, Bc, bc, rfl, hj, HJ⟩ := hrel
    by_cases hlt : j < n
    · obtain ⟨j1, j2, j3, j4, j6, j7, j8⟩ := HJ.out
      have hjl : j < L.length := by have := HN.out; omega
      obtain ⟨A', c', e0, hc', hC⟩ := Kd.R_reads j6
      rw [HN.out] at e0 hC
      obtain ⟨rfl, -, rfl⟩ : A = A' ∧ n = n ∧ c = c' := by simpa using e0
      obtain ⟨ad, rfl, g0, g1, g2, g3, g4, g5, g6⟩ := P.at_T150 hC (j : Int) (by omega) (by omega)
      rw [Int.toNat_natCast] at g0 g1 g2 g3 g4 g5 g6
      have hrd : P.rd_T150 L (j : Int) = L[j] := by simp [P.rd_T150, List.getD_eq_getElem?_getD, List.getElem?_eq_getElem hjl]
      have hat := foldl_at (prjF v) L j hjl le
      have hok := H2.out.2.2.2.2.2.2.1 L[j] (List.getElem_mem hjl)
      have h6 := H2.out.2.2.2.2.2.2.2 L[j] (List.getElem_mem hjl)
      rw [← hrd] at hat hok h6
      generalize P.rd_T150 L (j : Int) = f at *
      rw [hat] at j1
      have bF : Below wr.heap.size wr (wr.alloc (.cells (fC f) 150)) := (Below.refl _ wr).alloc (Nat.le_refl _) _
      have k2 := (bF.block s (Array.getElem?_eq_some_iff.1 j2).1).trans j2
      have k3 := (bF.block (s + 1) (Array.getElem?_eq_some_iff.1 j3).1).trans j3
      have kf : (wr.alloc (.cells (fC f) 150)).heap[wr.heap.size]? = some (.cells (fC f) 150) := World.alloc_heap_new wr _
      have HK := Lib.hid (And.intro j1 (And.intro k2 (And.intro k3 (And.intro (j4.below bF) (And.intro (Kd.R_below j6 bF) (And.intro (j7.trans (bF.mono (by omega))) (And.intro kf (And.intro hok (by have := bF.size; omega : s + 2 ≤ (wr.alloc (.cells (fC f) 150)).heap.size)))))))))
      have q0 : (wr.alloc (.cells (fC f) 150)).cell? ⟨s, 0, none⟩ = some (.int .i64 le.k) := cell_at k2 rfl
      have q1 : (wr.alloc (.cells (fC f) 150)).cell? ⟨s, 1, none⟩ = some (.int .i64 le.n0) := cell_at k2 rfl
      have q2 : (wr.alloc (.cells (fC f) 150)).cell? ⟨s, 2, none⟩ = some (.int .i64 le.n1) := cell_at k2 rfl
      have q3 : (wr.alloc (.cells (fC f) 150)).cell? ⟨s, 3, none⟩ = some (.int .i64 le.n2) := cell_at k2 rfl
      have q4 : (wr.alloc (.cells (fC f) 150)).cell? ⟨s, 4, none⟩ = some (.int .i64 le.n3) := cell_at k2 rfl
      have q5 : (wr.alloc (.cells (fC f) 150)).cell? ⟨s, 5, none⟩ = some (.int .i64 le.n4) := cell_at k2 rfl
      have q6 : (wr.alloc (.cells (fC f) 150)).cell? ⟨s, 6, none⟩ = some (.int .i64 le.n5) := cell_at k2 rfl
      have q7 : (wr.alloc (.cells (fC f) 150)).cell? ⟨s, 7, none⟩ = some (.slice Bp le.path.length bp) := cell_at k2 rfl
      have q8 : (wr.alloc (.cells (fC f) 150)).cell? ⟨s, 8, none⟩ = some (.slice Bc le.cells.length bc) := cell_at k2 rfl
      have q9 : (wr.alloc (.cells (fC f) 150)).cell? ⟨s, 9, none⟩ = some (.string le.text) := cell_at k2 rfl
      have q10 : (wr.alloc (.cells (fC f) 150)).cell? ⟨s, 10, none⟩ = some (.string le.tag) := cell_at k2 rfl
      unfold fC at *
      clear hat hok hrd hC hc' e0 j1 j2 j3 j4 j6 j7 k2 k3 kf bF HJ
      by_cases c1 : v = 1
      · by_cases c2 : f.f5 = 1
        · have HF : Hid (prjF v le f = le) := Lib.hid (by unfold prjF; rw [if_pos (.inr c2)])
          rw [c2] at HK
          go_wp2_with (fail)
          exact ⟨⟨j + 1, le, Bp, bp, Bc, bc, by simp, hlt, Lib.hid ⟨by rw [HK.out.1, HF.out], HK.out.2.1, HK.out.2.2.1, HK.out.2.2.2.1, HK.out.2.2.2.2.1, HK.out.2.2.2.2.2.1, HK.out.2.2.2.2.2.2.2.2⟩⟩, by simp [intV]; omega⟩
        · have HF : Hid (prjF v le f = if 0 ≤ f.f2 then setN (withoutM le f) f.f2 f.f6 else withoutM le f) := Lib.hid (by unfold prjF; rw [if_neg (by rintro (h | h); exact h c1; exact c2 h)])
          go_upto_region 6 with (fail)
          go_wp2_with (fail)
          refine (without_call le f HK.out.2.2.2.2.2.2.2.1 _ Bp bp Bc bc).mono ?_
          rintro e w3 ⟨Ep, ep, Ec, ec, rfl, hp, hc2, hb⟩
          obtain ⟨-, y2, y3, y4, y6, y7, yf, -, y8⟩ := HK.out
          have z2 := (hb.block s (Array.getElem?_eq_some_iff.1 y2).1).trans y2
          have z3 := (hb.block (s + 1) (Array.getElem?_eq_some_iff.1 y3).1).trans y3
          have zf := (hb.block wr.heap.size (Array.getElem?_eq_some_iff.1 yf).1).trans yf
          have z6 := Kd.R_below y6 hb
          have z7 := y7.trans (hb.mono (by simp; omega))
          have z8 : s + 2 ≤ w3.heap.size := Nat.le_trans y8 hb.size
          have z4 := Rw.msm (y4.below hb) hp hc2
          obtain ⟨ln, hln⟩ : ∃ ln, withoutM le f = ln := ⟨_, rfl⟩
          rw [hln] at hp hc2 HF z4 ⊢
          have HZ := Lib.hid (And.intro z2 (And.intro z3 (And.intro zf (And.intro z4 (And.intro z6 (And.intro z7 z8))))))
          have r0 : w3.cell? ⟨s, 0, none⟩ = some (.int .i64 le.k) := cell_at z2 rfl
          have r1 : w3.cell? ⟨s, 1, none⟩ = some (.int .i64 le.n0) := cell_at z2 rfl
          have r2 : w3.cell? ⟨s, 2, none⟩ = some (.int .i64 le.n1) := cell_at z2 rfl
          have r3 : w3.cell? ⟨s, 3, none⟩ = some (.int .i64 le.n2) := cell_at z2 rfl
          have r4 : w3.cell? ⟨s, 4, none⟩ = some (.int .i64 le.n3) := cell_at z2 rfl
          have r5 : w3.cell? ⟨s, 5, none⟩ = some (.int .i64 le.n4) := cell_at z2 rfl
          have r6 : w3.cell? ⟨s, 6, none⟩ = some (.int .i64 le.n5) := cell_at z2 rfl
          have r7 : w3.cell? ⟨s, 7, none⟩ = some (.slice Bp le.path.length bp) := cell_at z2 rfl
          have r8 : w3.cell? ⟨s, 8, none⟩ = some (.slice Bc le.cells.length bc) := cell_at z2 rfl
          have r9 : w3.cell? ⟨s, 9, none⟩ = some (.string le.text) := cell_at z2 rfl
          have r10 : w3.cell? ⟨s, 10, none⟩ = some (.string le.tag) := cell_at z2 rfl
          have fz0 : w3.frozen? ⟨s, 0, none⟩ = false := frozen_at z2
          have fz1 : w3.frozen? ⟨s, 1, none⟩ = false := frozen_at z2
          have fz2 : w3.frozen? ⟨s, 2, none⟩ = false := frozen_at z2
          have fz3 : w3.frozen? ⟨s, 3, none⟩ = false := frozen_at z2
          have fz4 : w3.frozen? ⟨s, 4, none⟩ = false := frozen_at z2
          have fz5 : w3.frozen? ⟨s, 5, none⟩ = false := frozen_at z2
          have fz6 : w3.frozen? ⟨s, 6, none⟩ = false := frozen_at z2
          have fz7 : w3.frozen? ⟨s, 7, none⟩ = false := frozen_at z2
          have fz8 : w3.frozen? ⟨s, 8, none⟩ = false := frozen_at z2
          have fz9 : w3.frozen? ⟨s, 9, none⟩ = false := frozen_at z2
          have fz10 : w3.frozen? ⟨s, 10, none⟩ = false := frozen_at z2
          unfold mV Ms.cs
          clear q0 q1 q2 q3 q4 q5 q6 q7 q8 q9 q10 z2 z3 z4 z6 z7 z8 zf y2 y3 y4 y6 y7 y8 yf hp hc2 hb hln
          go_upto_region 7 with (fail)
          show Code.wp _ _ _ _ (st11 w3 s (.int .i64 ln.k) (.int .i64 ln.n0) (.int .i64 ln.n1) (.int .i64 ln.n2) (.int .i64 ln.n3) (.int .i64 ln.n4) (.int .i64 ln.n5) (.slice Ep ln.path.length ep) (.slice Ec ln.cells.length ec) (.string ln.text) (.string ln.tag))
          have hst : Stab (fun x => x = s) w3.heap.size w3 (st11 w3 s (.int .i64 ln.k) (.int .i64 ln.n0) (.int .i64 ln.n1) (.int .i64 ln.n2) (.int .i64 ln.n3) (.int .i64 ln.n4) (.int .i64 ln.n5) (.slice Ep ln.path.length ep) (.slice Ec ln.cells.length ec) (.string ln.text) (.string ln.tag)) := st11_stab (W := w3) (b := s) (n := w3.heap.size) (.int .i64 ln.k) (.int .i64 ln.n0) (.int .i64 ln.n1) (.int .i64 ln.n2) (.int .i64 ln.n3) (.int .i64 ln.n4) (.int .i64 ln.n5) (.slice Ep ln.path.length ep) (.slice Ec ln.cells.length ec) (.string ln.text) (.string ln.tag)
          have x0 := st11_heap HZ.out.1 (.int .i64 ln.k) (.int .i64 ln.n0) (.int .i64 ln.n1) (.int .i64 ln.n2) (.int .i64 ln.n3) (.int .i64 ln.n4) (.int .i64 ln.n5) (.slice Ep ln.path.length ep) (.slice Ec ln.cells.length ec) (.string ln.text) (.string ln.tag)
          generalize st11 w3 s (.int .i64 ln.k) (.int .i64 ln.n0) (.int .i64 ln.n1) (.int .i64 ln.n2) (.int .i64 ln.n3) (.int .i64 ln.n4) (.int .i64 ln.n5) (.slice Ep ln.path.length ep) (.slice Ec ln.cells.length ec) (.string ln.text) (.string ln.tag) = X at hst x0 ⊢
          obtain ⟨-, z3, zf, z4, z6, z7, z8⟩ := HZ.out
          have x3 := hst.heap1 z3 (by omega)
          have xf := hst.heap1 zf (by omega)
          have x4 := z4.stab hst (by omega)
          have x6 := Stab.R z6 hst (by omega)
          have x7 := hst.one_below z7 (by omega) (by omega) (Nat.le_refl _)
          have x8 : s + 2 ≤ X.heap.size := Nat.le_trans z8 hst.size
          have HX2 := Lib.hid (And.intro x0 (And.intro x3 (And.intro x4 (And.intro x6 (And.intro x7 x8)))))
          have t0 : X.cell? ⟨wr.heap.size, 0, none⟩ = some (.string f.f0) := cell_at xf rfl
          have t1 : X.cell? ⟨wr.heap.size, 1, none⟩ = some (.int .i64 f.f1) := cell_at xf rfl
          have t2 : X.cell? ⟨wr.heap.size, 2, none⟩ = some (.int .i64 f.f2) := cell_at xf rfl
          have t3 : X.cell? ⟨wr.heap.size, 3, none⟩ = some (.int .i64 f.f3) := cell_at xf rfl
          have t4 : X.cell? ⟨wr.heap.size, 4, none⟩ = some (.int .i64 f.f4) := cell_at xf rfl
          have t5 : X.cell? ⟨wr.heap.size, 5, none⟩ = some (.int .i64 f.f5) := cell_at xf rfl
          have t6 : X.cell? ⟨wr.heap.size, 6, none⟩ = some (.int .i64 f.f6) := cell_at xf rfl
          have y0 : X.cell? ⟨s, 0, none⟩ = some (.int .i64 ln.k) := cell_at x0 rfl
          have y1 : X.cell? ⟨s, 1, none⟩ = some (.int .i64 ln.n0) := cell_at x0 rfl
          have y2 : X.cell? ⟨s, 2, none⟩ = some (.int .i64 ln.n1) := cell_at x0 rfl
          have y3 : X.cell? ⟨s, 3, none⟩ = some (.int .i64 ln.n2) := cell_at x0 rfl
          have y4 : X.cell? ⟨s, 4, none⟩ = some (.int .i64 ln.n3) := cell_at x0 rfl
          have y5 : X.cell? ⟨s, 5, none⟩ = some (.int .i64 ln.n4) := cell_at x0 rfl
          have y6 : X.cell? ⟨s, 6, none⟩ = some (.int .i64 ln.n5) := cell_at x0 rfl
          have y7 : X.cell? ⟨s, 7, none⟩ = some (.slice Ep ln.path.length ep) := cell_at x0 rfl
          have y8 : X.cell? ⟨s, 8, none⟩ = some (.slice Ec ln.cells.length ec) := cell_at x0 rfl
          have y9 : X.cell? ⟨s, 9, none⟩ = some (.string ln.text) := cell_at x0 rfl
          have y10 : X.cell? ⟨s, 10, none⟩ = some (.string ln.tag) := cell_at x0 rfl
          have fx0 : X.frozen? ⟨s, 0, none⟩ = false := frozen_at x0
          have fx1 : X.frozen? ⟨s, 1, none⟩ = false := frozen_at x0
          have fx2 : X.frozen? ⟨s, 2, none⟩ = false := frozen_at x0
          have fx3 : X.frozen? ⟨s, 3, none⟩ = false := frozen_at x0
          have fx4 : X.frozen? ⟨s, 4, none⟩ = false := frozen_at x0
          have fx5 : X.frozen? ⟨s, 5, none⟩ = false := frozen_at x0
          have fx6 : X.frozen? ⟨s, 6, none⟩ = false := frozen_at x0
          have fx7 : X.frozen? ⟨s, 7, none⟩ = false := frozen_at x0
          have fx8 : X.frozen? ⟨s, 8, none⟩ = false := frozen_at x0
          have fx9 : X.frozen? ⟨s, 9, none⟩ = false := frozen_at x0
          have fx10 : X.frozen? ⟨s, 10, none⟩ = false := frozen_at x0
          clear r0 r1 r2 r3 r4 r5 r6 r7 r8 r9 r10 fz0 fz1 fz2 fz3 fz4 fz5 fz6 fz7 fz8 fz9 fz10 hst x0 x3 xf x4 x6 x7 x8 z3 zf z4 z6 z7 z8 HZ
          by_cases hp0 : 0 ≤ f.f2
          · have HF2 : Hid (prjF v le f = setN ln f.f2 f.f6) := Lib.hid (by rw [HF.out, if_pos hp0])
            have h05 : f.f2 = 0 ∨ f.f2 = 1 ∨ f.f2 = 2 ∨ f.f2 = 3 ∨ f.f2 = 4 ∨ f.f2 = 5 := by omega
            obtain ⟨a, ha⟩ : ∃ a, f.f2 = a := ⟨_, rfl⟩
            rw [ha] at t2 HF2 h05 hp0
            clear HF h6
            rcases h05 with rfl | rfl | rfl | rfl | rfl | rfl
            · go_wp2_with (fail)
              have hs2 : Stab (fun x => x = s) X.heap.size X (X.setCell ⟨s, 1, none⟩ (.int .i64 f.f6)) := (Stab.refl _ _ _).set1 1 _
              obtain ⟨x0, x3, x4, x6, x7, x8⟩ := HX2.out
              go_simp
              exact ⟨⟨j + 1, by simp, hlt, setN ln 0 f.f6, Ep, ep, Ec, ec, Lib.hid ⟨by have := HK.out.1; rw [HF2.out, c1] at this; exact this, hs_at x0 rfl, hs2.heap1 x3 (by omega), (x4.stab hs2 (by omega)).setN _ _, Stab.R x6 hs2 (by omega), hs2.one_below x7 (by omega) (by omega) (Nat.le_refl _)⟩⟩, by simp [intV]; omega⟩
            · go_wp2_with (fail)
              have hs2 : Stab (fun x => x = s) X.heap.size X (X.setCell ⟨s, 2, none⟩ (.int .i64 f.f6)) := (Stab.refl _ _ _).set1 2 _
              obtain ⟨x0, x3, x4, x6, x7, x8⟩ := HX2.out
              go_simp
              exact ⟨⟨j + 1, by simp, hlt, setN ln 1 f.f6, Ep, ep, Ec, ec, Lib.hid ⟨by have := HK.out.1; rw [HF2.out, c1] at this; exact this, hs_at x0 rfl, hs2.heap1 x3 (by omega), (x4.stab hs2 (by omega)).setN _ _, Stab.R x6 hs2 (by omega), hs2.one_below x7 (by omega) (by omega) (Nat.le_refl _)⟩⟩, by simp [intV]; omega⟩
            · go_wp2_with (fail)
              have hs2 : Stab (fun x => x = s) X.heap.size X (X.setCell ⟨s, 3, none⟩ (.int .i64 f.f6)) := (Stab.refl _ _ _).set1 3 _
              obtain ⟨x0, x3, x4, x6, x7, x8⟩ := HX2.out
              go_simp
              exact ⟨⟨j + 1, by simp, hlt, setN ln 2 f.f6, Ep, ep, Ec, ec, Lib.hid ⟨by have := HK.out.1; rw [HF2.out, c1] at this; exact this, hs_at x0 rfl, hs2.heap1 x3 (by omega), (x4.stab hs2 (by omega)).setN _ _, Stab.R x6 hs2 (by omega), hs2.one_below x7 (by omega) (by omega) (Nat.le_refl _)⟩⟩, by simp [intV]; omega⟩
            · go_wp2_with (fail)
              have hs2 : Stab (fun x => x = s) X.heap.size X (X.setCell ⟨s, 4, none⟩ (.int .i64 f.f6)) := (Stab.refl _ _ _).set1 4 _
              obtain ⟨x0, x3, x4, x6, x7, x8⟩ := HX2.out
              go_simp
              exact ⟨⟨j + 1, by simp, hlt, setN ln 3 f.f6, Ep, ep, Ec, ec, Lib.hid ⟨by have := HK.out.1; rw [HF2.out, c1] at this; exact this, hs_at x0 rfl, hs2.heap1 x3 (by omega), (x4.stab hs2 (by omega)).setN _ _, Stab.R x6 hs2 (by omega), hs2.one_below x7 (by omega) (by omega) (Nat.le_refl _)⟩⟩, by simp [intV]; omega⟩
            · go_wp2_with (fail)
              have hs2 : Stab (fun x => x = s) X.heap.size X (X.setCell ⟨s, 5, none⟩ (.int .i64 f.f6)) := (Stab.refl _ _ _).set1 5 _
              obtain ⟨x0, x3, x4, x6, x7, x8⟩ := HX2.out
              go_simp
              exact ⟨⟨j + 1, by simp, hlt, setN ln 4 f.f6, Ep, ep, Ec, ec, Lib.hid ⟨by have := HK.out.1; rw [HF2.out, c1] at this; exact this, hs_at x0 rfl, hs2.heap1 x3 (by omega), (x4.stab hs2 (by omega)).setN _ _, Stab.R x6 hs2 (by omega), hs2.one_below x7 (by omega) (by omega) (Nat.le_refl _)⟩⟩, by simp [intV]; omega⟩
            · go_wp2_with (fail)
              have hs2 : Stab (fun x => x = s) X.heap.size X (X.setCell ⟨s, 6, none⟩ (.int .i64 f.f6)) := (Stab.refl _ _ _).set1 6 _
              obtain ⟨x0, x3, x4, x6, x7, x8⟩ := HX2.out
              go_simp
              exact ⟨⟨j + 1, by simp, hlt, setN ln 5 f.f6, Ep, ep, Ec, ec, Lib.hid ⟨by have := HK.out.1; rw [HF2.out, c1] at this; exact this, hs_at x0 rfl, hs2.heap1 x3 (by omega), (x4.stab hs2 (by omega)).setN _ _, Stab.R x6 hs2 (by omega), hs2.one_below x7 (by omega) (by omega) (Nat.le_refl _)⟩⟩, by simp [intV]; omega⟩
          · have HF2 : Hid (prjF v le f = ln) := Lib.hid (by rw [HF.out, if_neg hp0])
            clear HF
            go_wp2_with (fail)
            obtain ⟨x0, x3, x4, x6, x7, x8⟩ := HX2.out
            exact ⟨⟨j + 1, by simp, hlt, ln, Ep, ep, Ec, ec, Lib.hid ⟨by have := HK.out.1; rw [HF2.out, c1] at this; exact this, x0, x3, x4, x6, x7, x8⟩⟩, by simp [intV]; omega⟩
      · have HF : Hid (prjF v le f = le) := Lib.hid (by unfold prjF; rw [if_pos (.inl c1)])
        go_wp2_with (fail)
        exact ⟨⟨j + 1, le, Bp, bp, Bc, bc, by simp, hlt, Lib.hid ⟨by rw [HK.out.1, HF.out], HK.out.2.1, HK.out.2.2.1, HK.out.2.2.2.1, HK.out.2.2.2.2.1, HK.out.2.2.2.2.2.1, HK.out.2.2.2.2.2.2.2.2⟩⟩, by simp [intV]; omega⟩
    · obtain rfl : j = n := by omega
      obtain ⟨j1, j2, j3, j4, j6, j7, j8⟩ := HJ.out
      rw [List.drop_eq_nil_of_le (by have := HN.out; omega)] at j1
      have HV : Hid (R = le) := Lib.hid (by rw [HX.out, j1]; rfl)
      have q0 : wr.cell? ⟨s, 0, none⟩ = some (.int .i64 le.k) := cell_at j2 rfl
      have q1 : wr.cell? ⟨s, 1, none⟩ = some (.int .i64 le.n0) := cell_at j2 rfl
      have q2 : wr.cell? ⟨s, 2, none⟩ = some (.int .i64 le.n1) := cell_at j2 rfl
      have q3 : wr.cell? ⟨s, 3, none⟩ = some (.int .i64 le.n2) := cell_at j2 rfl
      have q4 : wr.cell? ⟨s, 4, none⟩ = some (.int .i64 le.n3) := cell_at j2 rfl
      have q5 : wr.cell? ⟨s, 5, none⟩ = some (.int .i64 le.n4) := cell_at j2 rfl
      have q6 : wr.cell? ⟨s, 6, none⟩ = some (.int .i64 le.n5) := cell_at j2 rfl
      have q7 : wr.cell? ⟨s, 7, none⟩ = some (.slice Bp le.path.length bp) := cell_at j2 rfl
      have q8 : wr.cell? ⟨s, 8, none⟩ = some (.slice Bc le.cells.length bc) := cell_at j2 rfl
      have q9 : wr.cell? ⟨s, 9, none⟩ = some (.string le.text) := cell_at j2 rfl
      have q10 : wr.cell? ⟨s, 10, none⟩ = some (.string le.tag) := cell_at j2 rfl
      have r0 : wr.cell? ⟨(s + 1), 0, none⟩ = some (.int .i64 0) := cell_at j3 rfl
      have r1 : wr.cell? ⟨(s + 1), 1, none⟩ = some (.int .i64 0) := cell_at j3 rfl
      have r2 : wr.cell? ⟨(s + 1), 2, none⟩ = some (.int .i64 0) := cell_at j3 rfl
      have r3 : wr.cell? ⟨(s + 1), 3, none⟩ = some (.int .i64 0) := cell_at j3 rfl
      have r4 : wr.cell? ⟨(s + 1), 4, none⟩ = some (.int .i64 0) := cell_at j3 rfl
      have r5 : wr.cell? ⟨(s + 1), 5, none⟩ = some (.int .i64 0) := cell_at j3 rfl
      have r6 : wr.cell? ⟨(s + 1), 6, none⟩ = some (.int .i64 0) := cell_at j3 rfl
      have r7 : wr.cell? ⟨(s + 1), 7, none⟩ = some (.slice none 0 0) := cell_at j3 rfl
      have r8 : wr.cell? ⟨(s + 1), 8, none⟩ = some (.slice none 0 0) := cell_at j3 rfl
      have r9 : wr.cell? ⟨(s + 1), 9, none⟩ = some (.string ⟨#[]⟩) := cell_at j3 rfl
      have r10 : wr.cell? ⟨(s + 1), 10, none⟩ = some (.string ⟨#[]⟩) := cell_at j3 rfl
      have z0 : wr.frozen? ⟨(s + 1), 0, none⟩ = false := frozen_at j3
      have z1 : wr.frozen? ⟨(s + 1), 1, none⟩ = false := frozen_at j3
      have z2 : wr.frozen? ⟨(s + 1), 2, none⟩ = false := frozen_at j3
      have z3 : wr.frozen? ⟨(s + 1), 3, none⟩ = false := frozen_at j3
      have z4 : wr.frozen? ⟨(s + 1), 4, none⟩ = false := frozen_at j3
      have z5 : wr.frozen? ⟨(s + 1), 5, none⟩ = false := frozen_at j3
      have z6 : wr.frozen? ⟨(s + 1), 6, none⟩ = false := frozen_at j3
      have z7 : wr.frozen? ⟨(s + 1), 7, none⟩ = false := frozen_at j3
      have z8 : wr.frozen? ⟨(s + 1), 8, none⟩ = false := frozen_at j3
      have z9 : wr.frozen? ⟨(s + 1), 9, none⟩ = false := frozen_at j3
      have z10 : wr.frozen? ⟨(s + 1), 10, none⟩ = false := frozen_at j3
      have HE := Lib.hid (And.intro j2 (And.intro j3 (And.intro j4 (And.intro j7 j8))))
      clear j1 j2 j3 j4 j6 j7 HJ HX
      go_wp2_with (fail)
      rw [Exit.noGoto_ret]
      obtain ⟨j2, j3, j4, j7, j8⟩ := HE.out
      have hs2 : Stab (fun x => x = s + 1) wr.heap.size wr (st11 wr (s + 1) (.int .i64 le.k) (.int .i64 le.n0) (.int .i64 le.n1) (.int .i64 le.n2) (.int .i64 le.n3) (.int .i64 le.n4) (.int .i64 le.n5) (.slice Bp le.path.length bp) (.slice Bc le.cells.length bc) (.string le.text) (.string le.tag)) := st11_stab (W := wr) (b := s + 1) (n := wr.heap.size) (.int .i64 le.k) (.int .i64 le.n0) (.int .i64 le.n1) (.int .i64 le.n2) (.int .i64 le.n3) (.int .i64 le.n4) (.int .i64 le.n5) (.slice Bp le.path.length bp) (.slice Bc le.cells.length bc) (.string le.text) (.string le.tag)
      have y4 := st11_heap j3 (.int .i64 le.k) (.int .i64 le.n0) (.int .i64 le.n1) (.int .i64 le.n2) (.int .i64 le.n3) (.int .i64 le.n4) (.int .i64 le.n5) (.slice Bp le.path.length bp) (.slice Bc le.cells.length bc) (.string le.text) (.string le.tag)
      show bodyPost _ _ _ _ _ (st11 wr (s + 1) (.int .i64 le.k) (.int .i64 le.n0) (.int .i64 le.n1) (.int .i64 le.n2) (.int .i64 le.n3) (.int .i64 le.n4) (.int .i64 le.n5) (.slice Bp le.path.length bp) (.slice Bc le.cells.length bc) (.string le.text) (.string le.tag))
      generalize st11 wr (s + 1) (.int .i64 le.k) (.int .i64 le.n0) (.int .i64 le.n1) (.int .i64 le.n2) (.int .i64 le.n3) (.int .i64 le.n4) (.int .i64 le.n5) (.slice Bp le.path.length bp) (.slice Bc le.cells.length bc) (.string le.text) (.string le.tag) = X at hs2 y4 ⊢
      have x0 : X.cell? ⟨(s + 1), 0, none⟩ = some (.int .i64 le.k) := cell_at y4 rfl
      have x1 : X.cell? ⟨(s + 1), 1, none⟩ = some (.int .i64 le.n0) := cell_at y4 rfl
      have x2 : X.cell? ⟨(s + 1), 2, none⟩ = some (.int .i64 le.n1) := cell_at y4 rfl
      have x3 : X.cell? ⟨(s + 1), 3, none⟩ = some (.int .i64 le.n2) := cell_at y4 rfl
      have x4 : X.cell? ⟨(s + 1), 4, none⟩ = some (.int .i64 le.n3) := cell_at y4 rfl
      have x5 : X.cell? ⟨(s + 1), 5, none⟩ = some (.int .i64 le.n4) := cell_at y4 rfl
      have x6 : X.cell? ⟨(s + 1), 6, none⟩ = some (.int .i64 le.n5) := cell_at y4 rfl
      have x7 : X.cell? ⟨(s + 1), 7, none⟩ = some (.slice Bp le.path.length bp) := cell_at y4 rfl
      have x8 : X.cell? ⟨(s + 1), 8, none⟩ = some (.slice Bc le.cells.length bc) := cell_at y4 rfl
      have x9 : X.cell? ⟨(s + 1), 9, none⟩ = some (.string le.text) := cell_at y4 rfl
      have x10 : X.cell? ⟨(s + 1), 10, none⟩ = some (.string le.tag) := cell_at y4 rfl
      refine bodyPost_ret (v := .agg (le.cs Bp bp Bc bc)) (by unfold Ms.cs; simp [results, Tryz.results43, go_sem, x0, x1, x2, x3, x4, x5, x6, x7, x8, x9, x10]) rfl ⟨Bp, bp, Bc, bc, by rw [HV.out]; rfl, ?_, ?_⟩
      · rw [HV.out]; exact (j4.stab hs2 (by omega)).lower (by rw [HS.out]; omega)
      · rw [HS.out]; exact hs2.one_below j7 (by omega) (by omega) (by omega)
end Go.Proofs.YtgdlpgakhhebeaaGreatDoor
