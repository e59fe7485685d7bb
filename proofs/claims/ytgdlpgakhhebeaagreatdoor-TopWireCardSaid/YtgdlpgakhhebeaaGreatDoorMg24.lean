/- Part 24 of the proof of TopWire: Cut, Evt, Evv. -/
import Derived.Deep.RegionHeld3
import Derived.OrdersIn
import Derived.OwnWalkIn
import Derived.Test.YtgdlpgakhhebeaaGreatDoorMg23
section
set_option linter.unusedVariables false
set_option linter.unusedSimpArgs false
namespace Go.Proofs.YtgdlpgakhhebeaaGreatDoor
open Go.RowKit Go.Proofs.YtgdlpgakhhebeaaGreatDoorW.PrintWords Go.Proofs.YtgdlpgakhhebeaaGreatDoorW.PrintMore
attribute [local go_sem] Oper.semAt_some
attribute [local go_sem] max2_int min2_int max_two min_two max_three min_three max_four min_four

def cutM (m : Ms) : Ms := { m with path := m.path.take 40, cells := m.cells.take 40, text := m.text.extract 0 (min m.text.size 80), tag := m.tag.extract 0 (min m.tag.size 80) }
theorem cut40 (l : Nat) : (if (40 : Int) < (l : Int) then (40 : Int) else (l : Int)) = ((min l 40 : Nat) : Int) := by
  split <;> omega
theorem cut80 (l : Nat) : (if (80 : Int) < (l : Int) then (80 : Int) else (l : Int)) = ((min l 80 : Nat) : Int) := by
  split <;> omega
set_option maxRecDepth 100000 in
set_option maxHeartbeats 4000000 in
theorem lawCut_call (m : Ms) (w : World) (Ap : Option Addr) (cp : Nat) (Ac : Option Addr) (cc : Nat) (h : MsR w m Ap cp Ac cc) :
    Calls Tryz.prog 25 #[mV m Ap cp Ac cc] w fun e w' => e = .returned (mV (cutM m) Ap cp Ac cc) ∧ Below w.heap.size w w' := by
  have hlp := h.lp
  have hlc := h.lc
  have n1 := cut40 m.path.length
  have n2 := cut40 m.cells.length
  have n3 := cut80 m.text.size
  have n4 := cut80 m.tag.size
  have HN : Hid (cutM m = ⟨m.k, m.n0, m.n1, m.n2, m.n3, m.n4, m.n5, m.path.take 40, m.cells.take 40, m.text.extract 0 (min m.text.size 80), m.tag.extract 0 (min m.tag.size 80)⟩) := Lib.hid rfl
  have HL : Hid ((m.path.take 40).length = min m.path.length 40 ∧ (m.cells.take 40).length = min m.cells.length 40) := Lib.hid (by simp [Nat.min_comm])
  have l1 : min m.path.length 40 ≤ m.path.length := Nat.min_le_left _ _
  have l2 : min m.cells.length 40 ≤ m.cells.length := Nat.min_le_left _ _
  have l3 : min m.text.size 80 ≤ m.text.size := Nat.min_le_left _ _
  have l4 : min m.tag.size 80 ≤ m.tag.size := Nat.min_le_left _ _
  generalize min m.path.length 40 = np at *
  generalize min m.cells.length 40 = nc at *
  generalize min m.text.size 80 = nt at *
  generalize min m.tag.size 80 = ng at *
  generalize hR : cutM m = R at *
  clear h hR
  unfold mV Ms.cs
  obtain ⟨k, a0, a1, a2, a3, a4, a5, path, cells, text, tag⟩ := m
  simp only at *
  generalize hlpn : path.length = lp at *
  generalize hlcn : cells.length = lc at *
  have HH := Lib.hid (And.intro hlpn hlcn)
  have q1 : np ≤ cp := by omega
  have q2 : nc ≤ cc := by omega
  clear hlpn hlcn l1 l2 hlp hlc
  obtain ⟨s, hs⟩ : ∃ s, w.heap.size = s := ⟨_, rfl⟩
  obtain ⟨V0, hV0⟩ : ∃ V0, (w.alloc (.cells #[.int .i64 k, .int .i64 a0, .int .i64 a1, .int .i64 a2, .int .i64 a3, .int .i64 a4, .int .i64 a5, .slice Ap lp cp, .slice Ac lc cc, .string text, .string tag] 69)).alloc (.cells #[.int .i64 0, .int .i64 0, .int .i64 0, .int .i64 0, .int .i64 0, .int .i64 0, .int .i64 0, .slice none 0 0, .slice none 0 0, .string ⟨#[]⟩, .string ⟨#[]⟩] 69) = V0 := ⟨_, rfl⟩
  have v1 : V0.heap[s]? = some (.cells #[.int .i64 k, .int .i64 a0, .int .i64 a1, .int .i64 a2, .int .i64 a3, .int .i64 a4, .int .i64 a5, .slice Ap lp cp, .slice Ac lc cc, .string text, .string tag] 69) := by rw [← hV0, ← hs]; exact al2_a w _ _
  have v2 : V0.heap[s + 1]? = some (.cells #[.int .i64 0, .int .i64 0, .int .i64 0, .int .i64 0, .int .i64 0, .int .i64 0, .int .i64 0, .slice none 0 0, .slice none 0 0, .string ⟨#[]⟩, .string ⟨#[]⟩] 69) := by rw [← hV0, ← hs]; exact al2_b w _ _
  have v3 : Below s w V0 := by rw [← hV0, ← hs]; exact ((Below.refl _ w).alloc (Nat.le_refl _) _).alloc (by simp) _
  have HV0 := Lib.hid (And.intro v1 (And.intro v2 v3))
  have HS := Lib.hid hs
  go_enter Tryz.func25, Tryz.ntmps25
  go_wp2_with (fail)
  try rw [hV0]
  try rw [hs]
  have g7 : V0.drew.cell? ⟨s, 7, none⟩ = some (.slice Ap lp cp) := cell_at v1 rfl
  have g8 : V0.drew.cell? ⟨s, 8, none⟩ = some (.slice Ac lc cc) := cell_at v1 rfl
  have z7 : V0.drew.frozen? ⟨s, 7, none⟩ = false := frozen_at v1
  clear v1 v2 v3 hV0 hs
  refine wp_region_hoistD 15 [(0, 0), (1, 1), (2, 0), (3, 1), (4, 0), (5, 0), (6, 0), (7, 0), (8, 1), (9, 0), (10, 1), (11, 0), (12, 0), (13, 0), (14, 0), (15, 2), (16, 0), (17, 2)] (fun w' => w'.cell? ⟨s, 7, none⟩ = some (.slice Ap lp cp) ∧ w'.cell? ⟨s, 8, none⟩ = some (.slice Ac lc cc)) (by kernel_rfl) (by kernel_rfl) ?_
  apply wpD_pureL _ rfl rfl rfl
  · intro w'; go_simp; exact ⟨rfl, rfl⟩
  simp only [List.set_cons_zero, List.set_cons_succ]
  apply wpD_readL _ rfl rfl rfl
  · intro w' hw'; obtain ⟨h1, h2⟩ := hw'; go_simp; exact ⟨rfl, rfl⟩
  simp only [List.set_cons_zero, List.set_cons_succ]
  apply wpD_pureL _ rfl rfl rfl
  · intro w'; go_simp; exact ⟨rfl, rfl⟩
  simp only [List.set_cons_zero, List.set_cons_succ]
  apply wpD_readL _ rfl rfl rfl
  · intro w' hw'; obtain ⟨h1, h2⟩ := hw'; go_simp; exact ⟨rfl, rfl⟩
  simp only [List.set_cons_zero, List.set_cons_succ]
  apply wpD_pureL _ rfl rfl rfl
  · intro w'; go_simp; exact ⟨rfl, rfl⟩
  simp only [List.set_cons_zero, List.set_cons_succ]
  apply wpD_pureL _ rfl rfl rfl
  · intro w'; go_simp; exact ⟨rfl, rfl⟩
  simp only [List.set_cons_zero, List.set_cons_succ]
  apply wpD_pureL _ rfl rfl rfl
  · intro w'; go_simp; exact ⟨rfl, rfl⟩
  simp only [List.set_cons_zero, List.set_cons_succ]
  apply wpD_pureL _ rfl rfl rfl
  · intro w'; go_simp; exact ⟨rfl, rfl⟩
  simp only [List.set_cons_zero, List.set_cons_succ]
  apply wpD_readL _ rfl rfl rfl
  · intro w' hw'; obtain ⟨h1, h2⟩ := hw'; go_simp; exact ⟨rfl, rfl⟩
  simp only [List.set_cons_zero, List.set_cons_succ]
  apply wpD_pureL _ rfl rfl rfl
  · intro w'; go_simp; exact ⟨rfl, rfl⟩
  simp only [List.set_cons_zero, List.set_cons_succ]
  apply wpD_readL _ rfl rfl rfl
  · intro w' hw'; obtain ⟨h1, h2⟩ := hw'; go_simp; exact ⟨rfl, rfl⟩
  simp only [List.set_cons_zero, List.set_cons_succ]
  apply wpD_pureL _ rfl rfl rfl
  · intro w'; go_simp; exact ⟨rfl, rfl⟩
  simp only [List.set_cons_zero, List.set_cons_succ]
  apply wpD_pureL _ rfl rfl rfl
  · intro w'; go_simp; exact ⟨rfl, rfl⟩
  simp only [List.set_cons_zero, List.set_cons_succ]
  apply wpD_pureL _ rfl rfl rfl
  · intro w'; go_simp; exact ⟨rfl, rfl⟩
  simp only [List.set_cons_zero, List.set_cons_succ]
  apply wpD_pureL _ rfl rfl rfl
  · intro w'; go_simp; exact ⟨rfl, rfl⟩
  simp only [List.set_cons_zero, List.set_cons_succ]
  apply wpD_storeL (w' := V0.drew.setCell ⟨s, 7, none⟩ (.slice Ap np cp)) (fun _ => trivial) rfl rfl (fun _ => ⟨g7, g8⟩) rfl (fun c h => by cases h)
  · go_simp
  apply wpD_pureL _ rfl rfl rfl
  · intro w'; go_simp; exact ⟨rfl, rfl⟩
  simp only [List.set_cons_zero, List.set_cons_succ]
  apply wpD_storeL (w' := (V0.drew.setCell ⟨s, 7, none⟩ (.slice Ap np cp)).setCell ⟨s, 8, none⟩ (.slice Ac nc cc)) (fun _ => trivial) rfl rfl (fun h => by cases h) rfl (fun c h => by cases h)
  · have x8 : (V0.drew.setCell ⟨s, 7, none⟩ (.slice Ap np cp)).cell? ⟨s, 8, none⟩ = some (.slice Ac lc cc) := cell_at (hs_at HV0.out.1 rfl) rfl
    have y8 : (V0.drew.setCell ⟨s, 7, none⟩ (.slice Ap np cp)).frozen? ⟨s, 8, none⟩ = false := frozen_at (hs_at HV0.out.1 rfl)
    generalize V0.drew.setCell ⟨s, 7, none⟩ (.slice Ap np cp) = Z at *
    go_simp
  refine wpD_end ?_
  clear g7 g8 z7
  have st : Stab (fun b => b = s) V0.heap.size V0 ((V0.drew.setCell ⟨s, 7, none⟩ (.slice Ap np cp)).setCell ⟨s, 8, none⟩ (.slice Ac nc cc)) := (((Stab.of_below (T := fun b => b = s) ((Below.refl _ V0).drew)).set1 7 _).set1 8 _)
  have v1 : ((V0.drew.setCell ⟨s, 7, none⟩ (.slice Ap np cp)).setCell ⟨s, 8, none⟩ (.slice Ac nc cc)).heap[s]? = some (.cells #[.int .i64 k, .int .i64 a0, .int .i64 a1, .int .i64 a2, .int .i64 a3, .int .i64 a4, .int .i64 a5, .slice Ap np cp, .slice Ac nc cc, .string text, .string tag] 69) := hs_at (hs_at HV0.out.1 rfl) rfl
  generalize (V0.drew.setCell ⟨s, 7, none⟩ (.slice Ap np cp)).setCell ⟨s, 8, none⟩ (.slice Ac nc cc) = V1 at st v1 ⊢
  have v2 := st.heap1 HV0.out.2.1 (by omega)
  have v3 : Below s w V1 := st.one_below HV0.out.2.2 (by have := HV0.out.2.2.size; rw [HS.out] at this; exact this) (by have := HV0.out.2.2.size; rw [HS.out] at this; exact this) (Nat.le_refl _)
  have HV1 := Lib.hid (And.intro v1 (And.intro v2 v3))
  have g9 : V1.drew.cell? ⟨s, 9, none⟩ = some (.string text) := cell_at v1 rfl
  have g10 : V1.drew.cell? ⟨s, 10, none⟩ = some (.string tag) := cell_at v1 rfl
  have z9 : V1.drew.frozen? ⟨s, 9, none⟩ = false := frozen_at v1
  clear v1 v2 v3 st HV0 n1 n2 q1 q2
  go_wp2_with (fail)
  refine wp_region_hoistD 15 [(0, 0), (1, 1), (2, 0), (3, 1), (4, 0), (5, 0), (6, 0), (7, 0), (8, 1), (9, 0), (10, 1), (11, 0), (12, 0), (13, 0), (14, 0), (15, 2), (16, 0), (17, 2)] (fun w' => w'.cell? ⟨s, 9, none⟩ = some (.string text) ∧ w'.cell? ⟨s, 10, none⟩ = some (.string tag)) (by kernel_rfl) (by kernel_rfl) ?_
  apply wpD_pureL _ rfl rfl rfl
  · intro w'; go_simp; exact ⟨rfl, rfl⟩
  simp only [List.set_cons_zero, List.set_cons_succ]
  apply wpD_readL _ rfl rfl rfl
  · intro w' hw'; obtain ⟨h1, h2⟩ := hw'; go_simp; exact ⟨rfl, rfl⟩
  simp only [List.set_cons_zero, List.set_cons_succ]
  apply wpD_pureL _ rfl rfl rfl
  · intro w'; go_simp; exact ⟨rfl, rfl⟩
  simp only [List.set_cons_zero, List.set_cons_succ]
  apply wpD_readL _ rfl rfl rfl
  · intro w' hw'; obtain ⟨h1, h2⟩ := hw'; go_simp; exact ⟨rfl, rfl⟩
  simp only [List.set_cons_zero, List.set_cons_succ]
  apply wpD_pureL _ rfl rfl rfl
  · intro w'; go_simp; exact ⟨rfl, rfl⟩
  simp only [List.set_cons_zero, List.set_cons_succ]
  apply wpD_pureL _ rfl rfl rfl
  · intro w'; go_simp; exact ⟨rfl, rfl⟩
  simp only [List.set_cons_zero, List.set_cons_succ]
  apply wpD_pureL _ rfl rfl rfl
  · intro w'; go_simp; exact ⟨rfl, rfl⟩
  simp only [List.set_cons_zero, List.set_cons_succ]
  apply wpD_pureL _ rfl rfl rfl
  · intro w'; go_simp; exact ⟨rfl, rfl⟩
  simp only [List.set_cons_zero, List.set_cons_succ]
  apply wpD_readL _ rfl rfl rfl
  · intro w' hw'; obtain ⟨h1, h2⟩ := hw'; go_simp; exact ⟨rfl, rfl⟩
  simp only [List.set_cons_zero, List.set_cons_succ]
  apply wpD_pureL _ rfl rfl rfl
  · intro w'; go_simp; exact ⟨rfl, rfl⟩
  simp only [List.set_cons_zero, List.set_cons_succ]
  apply wpD_readL _ rfl rfl rfl
  · intro w' hw'; obtain ⟨h1, h2⟩ := hw'; go_simp; exact ⟨rfl, rfl⟩
  simp only [List.set_cons_zero, List.set_cons_succ]
  apply wpD_pureL _ rfl rfl rfl
  · intro w'; go_simp; exact ⟨rfl, rfl⟩
  simp only [List.set_cons_zero, List.set_cons_succ]
  apply wpD_pureL _ rfl rfl rfl
  · intro w'; go_simp; exact ⟨rfl, rfl⟩
  simp only [List.set_cons_zero, List.set_cons_succ]
  apply wpD_pureL _ rfl rfl rfl
  · intro w'; go_simp; exact ⟨rfl, rfl⟩
  simp only [List.set_cons_zero, List.set_cons_succ]
  apply wpD_pureL _ rfl rfl rfl
  · intro w'; go_simp; exact ⟨rfl, rfl⟩
  simp only [List.set_cons_zero, List.set_cons_succ]
  apply wpD_storeL (w' := V1.drew.setCell ⟨s, 9, none⟩ (.string (text.extract 0 nt))) (fun _ => trivial) rfl rfl (fun _ => ⟨g9, g10⟩) rfl (fun c h => by cases h)
  · go_simp
  apply wpD_pureL _ rfl rfl rfl
  · intro w'; go_simp; exact ⟨rfl, rfl⟩
  simp only [List.set_cons_zero, List.set_cons_succ]
  apply wpD_storeL (w' := (V1.drew.setCell ⟨s, 9, none⟩ (.string (text.extract 0 nt))).setCell ⟨s, 10, none⟩ (.string (tag.extract 0 ng))) (fun _ => trivial) rfl rfl (fun h => by cases h) rfl (fun c h => by cases h)
  · have x10 : (V1.drew.setCell ⟨s, 9, none⟩ (.string (text.extract 0 nt))).cell? ⟨s, 10, none⟩ = some (.string tag) := cell_at (hs_at HV1.out.1 rfl) rfl
    have y10 : (V1.drew.setCell ⟨s, 9, none⟩ (.string (text.extract 0 nt))).frozen? ⟨s, 10, none⟩ = false := frozen_at (hs_at HV1.out.1 rfl)
    generalize V1.drew.setCell ⟨s, 9, none⟩ (.string (text.extract 0 nt)) = Z at *
    go_simp
  refine wpD_end ?_
  clear g9 g10 z9 n3 n4 l3 l4
  have st : Stab (fun b => b = s) V1.heap.size V1 ((V1.drew.setCell ⟨s, 9, none⟩ (.string (text.extract 0 nt))).setCell ⟨s, 10, none⟩ (.string (tag.extract 0 ng))) := (((Stab.of_below (T := fun b => b = s) ((Below.refl _ V1).drew)).set1 9 _).set1 10 _)
  have v1 : ((V1.drew.setCell ⟨s, 9, none⟩ (.string (text.extract 0 nt))).setCell ⟨s, 10, none⟩ (.string (tag.extract 0 ng))).heap[s]? = some (.cells #[.int .i64 k, .int .i64 a0, .int .i64 a1, .int .i64 a2, .int .i64 a3, .int .i64 a4, .int .i64 a5, .slice Ap np cp, .slice Ac nc cc, .string (text.extract 0 nt), .string (tag.extract 0 ng)] 69) := hs_at (hs_at HV1.out.1 rfl) rfl
  generalize (V1.drew.setCell ⟨s, 9, none⟩ (.string (text.extract 0 nt))).setCell ⟨s, 10, none⟩ (.string (tag.extract 0 ng)) = V2 at st v1 ⊢
  have v2 := st.heap1 HV1.out.2.1 (by omega)
  have v3 : Below s w V2 := st.one_below HV1.out.2.2 (by have := HV1.out.2.2.size; rw [HS.out] at this; exact this) (by have := HV1.out.2.2.size; rw [HS.out] at this; exact this) (Nat.le_refl _)
  have HV2 := Lib.hid (And.intro v2 v3)
  have q0 : V2.cell? ⟨s, 0, none⟩ = some (.int .i64 k) := cell_at v1 rfl
  have q1 : V2.cell? ⟨s, 1, none⟩ = some (.int .i64 a0) := cell_at v1 rfl
  have q2 : V2.cell? ⟨s, 2, none⟩ = some (.int .i64 a1) := cell_at v1 rfl
  have q3 : V2.cell? ⟨s, 3, none⟩ = some (.int .i64 a2) := cell_at v1 rfl
  have q4 : V2.cell? ⟨s, 4, none⟩ = some (.int .i64 a3) := cell_at v1 rfl
  have q5 : V2.cell? ⟨s, 5, none⟩ = some (.int .i64 a4) := cell_at v1 rfl
  have q6 : V2.cell? ⟨s, 6, none⟩ = some (.int .i64 a5) := cell_at v1 rfl
  have q7 : V2.cell? ⟨s, 7, none⟩ = some (.slice Ap np cp) := cell_at v1 rfl
  have q8 : V2.cell? ⟨s, 8, none⟩ = some (.slice Ac nc cc) := cell_at v1 rfl
  have q9 : V2.cell? ⟨s, 9, none⟩ = some (.string (text.extract 0 nt)) := cell_at v1 rfl
  have q10 : V2.cell? ⟨s, 10, none⟩ = some (.string (tag.extract 0 ng)) := cell_at v1 rfl
  have r0 : V2.cell? ⟨(s + 1), 0, none⟩ = some (.int .i64 0) := cell_at v2 rfl
  have r1 : V2.cell? ⟨(s + 1), 1, none⟩ = some (.int .i64 0) := cell_at v2 rfl
  have r2 : V2.cell? ⟨(s + 1), 2, none⟩ = some (.int .i64 0) := cell_at v2 rfl
  have r3 : V2.cell? ⟨(s + 1), 3, none⟩ = some (.int .i64 0) := cell_at v2 rfl
  have r4 : V2.cell? ⟨(s + 1), 4, none⟩ = some (.int .i64 0) := cell_at v2 rfl
  have r5 : V2.cell? ⟨(s + 1), 5, none⟩ = some (.int .i64 0) := cell_at v2 rfl
  have r6 : V2.cell? ⟨(s + 1), 6, none⟩ = some (.int .i64 0) := cell_at v2 rfl
  have r7 : V2.cell? ⟨(s + 1), 7, none⟩ = some (.slice none 0 0) := cell_at v2 rfl
  have r8 : V2.cell? ⟨(s + 1), 8, none⟩ = some (.slice none 0 0) := cell_at v2 rfl
  have r9 : V2.cell? ⟨(s + 1), 9, none⟩ = some (.string ⟨#[]⟩) := cell_at v2 rfl
  have r10 : V2.cell? ⟨(s + 1), 10, none⟩ = some (.string ⟨#[]⟩) := cell_at v2 rfl
  have z0 : V2.frozen? ⟨(s + 1), 0, none⟩ = false := frozen_at v2
  have z1 : V2.frozen? ⟨(s + 1), 1, none⟩ = false := frozen_at v2
  have z2 : V2.frozen? ⟨(s + 1), 2, none⟩ = false := frozen_at v2
  have z3 : V2.frozen? ⟨(s + 1), 3, none⟩ = false := frozen_at v2
  have z4 : V2.frozen? ⟨(s + 1), 4, none⟩ = false := frozen_at v2
  have z5 : V2.frozen? ⟨(s + 1), 5, none⟩ = false := frozen_at v2
  have z6 : V2.frozen? ⟨(s + 1), 6, none⟩ = false := frozen_at v2
  have z7 : V2.frozen? ⟨(s + 1), 7, none⟩ = false := frozen_at v2
  have z8 : V2.frozen? ⟨(s + 1), 8, none⟩ = false := frozen_at v2
  have z9 : V2.frozen? ⟨(s + 1), 9, none⟩ = false := frozen_at v2
  have z10 : V2.frozen? ⟨(s + 1), 10, none⟩ = false := frozen_at v2
  clear v1 v2 v3 st HV1
  go_wp2_with (fail)
  have y4 := st11_heap HV2.out.1 (.int .i64 k) (.int .i64 a0) (.int .i64 a1) (.int .i64 a2) (.int .i64 a3) (.int .i64 a4) (.int .i64 a5) (.slice Ap np cp) (.slice Ac nc cc) (.string (text.extract 0 nt)) (.string (tag.extract 0 ng))
  have st : Stab (fun b => b = s + 1) V2.heap.size V2 (st11 V2 (s + 1) (.int .i64 k) (.int .i64 a0) (.int .i64 a1) (.int .i64 a2) (.int .i64 a3) (.int .i64 a4) (.int .i64 a5) (.slice Ap np cp) (.slice Ac nc cc) (.string (text.extract 0 nt)) (.string (tag.extract 0 ng))) := st11_stab (W := V2) (b := s + 1) (n := V2.heap.size) (.int .i64 k) (.int .i64 a0) (.int .i64 a1) (.int .i64 a2) (.int .i64 a3) (.int .i64 a4) (.int .i64 a5) (.slice Ap np cp) (.slice Ac nc cc) (.string (text.extract 0 nt)) (.string (tag.extract 0 ng))
  show bodyPost _ _ _ _ _ (st11 V2 (s + 1) (.int .i64 k) (.int .i64 a0) (.int .i64 a1) (.int .i64 a2) (.int .i64 a3) (.int .i64 a4) (.int .i64 a5) (.slice Ap np cp) (.slice Ac nc cc) (.string (text.extract 0 nt)) (.string (tag.extract 0 ng)))
  generalize st11 V2 (s + 1) (.int .i64 k) (.int .i64 a0) (.int .i64 a1) (.int .i64 a2) (.int .i64 a3) (.int .i64 a4) (.int .i64 a5) (.slice Ap np cp) (.slice Ac nc cc) (.string (text.extract 0 nt)) (.string (tag.extract 0 ng)) = X at st y4 ⊢
  have x0 : X.cell? ⟨(s + 1), 0, none⟩ = some (.int .i64 k) := cell_at y4 rfl
  have x1 : X.cell? ⟨(s + 1), 1, none⟩ = some (.int .i64 a0) := cell_at y4 rfl
  have x2 : X.cell? ⟨(s + 1), 2, none⟩ = some (.int .i64 a1) := cell_at y4 rfl
  have x3 : X.cell? ⟨(s + 1), 3, none⟩ = some (.int .i64 a2) := cell_at y4 rfl
  have x4 : X.cell? ⟨(s + 1), 4, none⟩ = some (.int .i64 a3) := cell_at y4 rfl
  have x5 : X.cell? ⟨(s + 1), 5, none⟩ = some (.int .i64 a4) := cell_at y4 rfl
  have x6 : X.cell? ⟨(s + 1), 6, none⟩ = some (.int .i64 a5) := cell_at y4 rfl
  have x7 : X.cell? ⟨(s + 1), 7, none⟩ = some (.slice Ap np cp) := cell_at y4 rfl
  have x8 : X.cell? ⟨(s + 1), 8, none⟩ = some (.slice Ac nc cc) := cell_at y4 rfl
  have x9 : X.cell? ⟨(s + 1), 9, none⟩ = some (.string (text.extract 0 nt)) := cell_at y4 rfl
  have x10 : X.cell? ⟨(s + 1), 10, none⟩ = some (.string (tag.extract 0 ng)) := cell_at y4 rfl
  refine bodyPost_ret (v := .agg #[.int .i64 k, .int .i64 a0, .int .i64 a1, .int .i64 a2, .int .i64 a3, .int .i64 a4, .int .i64 a5, .slice Ap np cp, .slice Ac nc cc, .string (text.extract 0 nt), .string (tag.extract 0 ng)]) (by simp [results, Tryz.results25, go_sem, x0, x1, x2, x3, x4, x5, x6, x7, x8, x9, x10]) rfl ⟨?_, ?_⟩
  · rw [HN.out]
    show _ = Ending.returned (.agg (Ms.cs _ Ap cp Ac cc))
    unfold Ms.cs
    simp only [HL.out.1, HL.out.2]
  · rw [HS.out]; exact st.one_below HV2.out.2 (by have := HV2.out.2.size; rw [HS.out] at this; exact this) (by have := HV2.out.2.size; rw [HS.out] at this; exact this) (by omega)
end Go.Proofs.YtgdlpgakhhebeaaGreatDoor
end
section
/- Tries keyed by numbers, made for reckoning in the kernel. Nothing of a program stands here. -/
set_option linter.unusedVariables false
namespace Go.Proofs.YtgdlpgakhhebeaaGreatDoor.Ev

/-- A trie: 0 here; 2k+1 to the left at k; 2k+2 to the right at k. -/
inductive T (α : Type) where
  | nil
  | node (l : T α) (v : Option α) (r : T α)

namespace T
variable {α : Type}
/-- A branch, of no universe of its own. -/
noncomputable def bi {β : Type} (b : Bool) (x y : β) : β := @Bool.rec (fun _ => β) y x b
theorem bi_eq {β : Type} (b : Bool) (x y : β) : bi b x y = bif b then x else y := by cases b <;> rfl
theorem ob_eq {β γ : Type} (x : Option β) (f : β → Option γ) : @Option.rec β (fun _ => Option γ) none f x = x.bind f := by cases x <;> rfl
noncomputable def get (t : T α) : Nat → Option α := T.rec (motive := fun _ => Nat → Option α) (fun _ => none)
  (fun _ v _ gl gr n => @Bool.rec (fun _ => Option α) (@Bool.rec (fun _ => Option α) (gr (Nat.sub (Nat.div n 2) 1)) (gl (Nat.div n 2)) (Nat.beq (Nat.mod n 2) 1)) v (Nat.beq n 0)) t
noncomputable def put (f : Nat) : T α → Nat → Option α → T α := Nat.rec (motive := fun _ => T α → Nat → Option α → T α) (fun t _ _ => t)
  (fun _ p t n x => T.casesOn (motive := fun _ => T α) t
    (@Bool.rec (fun _ => T α) (@Bool.rec (fun _ => T α) (node nil none (p nil (Nat.sub (Nat.div n 2) 1) x)) (node (p nil (Nat.div n 2) x) none nil) (Nat.beq (Nat.mod n 2) 1)) (node nil x nil) (Nat.beq n 0))
    (fun l v r => @Bool.rec (fun _ => T α) (@Bool.rec (fun _ => T α) (node l v (p r (Nat.sub (Nat.div n 2) 1) x)) (node (p l (Nat.div n 2) x) v r) (Nat.beq (Nat.mod n 2) 1)) (node l x r) (Nat.beq n 0))) f
/-- Keys below 2^40 - 1. -/
noncomputable def set (t : T α) (n : Nat) (x : α) : T α := put 40 t n (some x)
noncomputable def del (t : T α) (n : Nat) : T α := put 40 t n none

theorem nb (a b : Nat) : Nat.beq a b = (a == b) := by
  rw [Bool.eq_iff_iff]
  simp [Nat.beq_eq]
theorem get_nil (n : Nat) : (nil : T α).get n = none := rfl
theorem get_node (l : T α) (v : Option α) (r : T α) (n : Nat) : (node l v r).get n = bif n == 0 then v else bif n % 2 == 1 then l.get (n / 2) else r.get (n / 2 - 1) := by
  rw [← nb, ← nb, ← bi_eq, ← bi_eq]; rfl
theorem put_nil (f : Nat) (n : Nat) (x : Option α) : put (f + 1) nil n x = bif n == 0 then node nil x nil else bif n % 2 == 1 then node (put f nil (n / 2) x) none nil else node nil none (put f nil (n / 2 - 1) x) := by
  rw [← nb, ← nb, ← bi_eq, ← bi_eq]; rfl
theorem put_node (f : Nat) (l : T α) (v : Option α) (r : T α) (n : Nat) (x : Option α) : put (f + 1) (node l v r) n x = bif n == 0 then node l x r else bif n % 2 == 1 then node (put f l (n / 2) x) v r else node l v (put f r (n / 2 - 1) x) := by
  rw [← nb, ← nb, ← bi_eq, ← bi_eq]; rfl
theorem get_put : ∀ (f : Nat) (t : T α) (n m : Nat) (x : Option α), n + 1 < 2 ^ f → (put f t n x).get m = if m = n then x else t.get m
  | 0, t, n, m, x, h => by simp at h
  | f + 1, t, n, m, x, h => by
    have hp : (2 : Nat) ^ (f + 1) = 2 * 2 ^ f := by rw [Nat.pow_succ]; omega
    rw [hp] at h
    have ih := fun (t : T α) (n m : Nat) (x : Option α) (h : n + 1 < 2 ^ f) => get_put f t n m x h
    have key : ∀ (l r : T α) (v : Option α), (bif n == 0 then node l x r else bif n % 2 == 1 then node (put f l (n / 2) x) v r else node l v (put f r (n / 2 - 1) x)).get m = if m = n then x else (node l v r).get m := by
      intro l r v
      by_cases h0 : n = 0
      · subst h0
        simp only [beq_self_eq_true, cond_true, get_node]
        by_cases hm : m = 0
        · subst hm; simp
        · have em : (m == 0) = false := by simpa using hm
          simp [hm, em]
      · have e0 : (n == 0) = false := by simpa using h0
        rw [e0, cond_false]
        by_cases h1 : n % 2 = 1
        · have e1 : (n % 2 == 1) = true := by simpa using h1
          rw [e1, cond_true]
          simp only [get_node]
          by_cases hm : m = 0
          · subst hm
            have : ¬ (0 = n) := fun e => h0 e.symm
            simp [this]
          · have em : (m == 0) = false := by simpa using hm
            rw [em, cond_false, cond_false]
            by_cases hm1 : m % 2 = 1
            · have em1 : (m % 2 == 1) = true := by simpa using hm1
              rw [em1, cond_true, cond_true, ih l (n / 2) (m / 2) x (by omega)]
              by_cases he : m = n
              · subst he; simp
              · rw [if_neg (by omega), if_neg he]
            · have em1 : (m % 2 == 1) = false := by simpa using hm1
              rw [em1, cond_false, cond_false, if_neg (by intro e; subst e; exact hm1 h1)]
        · have e1 : (n % 2 == 1) = false := by simpa using h1
          rw [e1, cond_false]
          simp only [get_node]
          by_cases hm : m = 0
          · subst hm
            have : ¬ (0 = n) := fun e => h0 e.symm
            simp [this]
          · have em : (m == 0) = false := by simpa using hm
            rw [em, cond_false, cond_false]
            by_cases hm1 : m % 2 = 1
            · have em1 : (m % 2 == 1) = true := by simpa using hm1
              rw [em1, cond_true, cond_true, if_neg (by intro e; subst e; exact h1 hm1)]
            · have em1 : (m % 2 == 1) = false := by simpa using hm1
              rw [em1, cond_false, cond_false, ih r (n / 2 - 1) (m / 2 - 1) x (by omega)]
              by_cases he : m = n
              · subst he; simp
              · rw [if_neg (by omega), if_neg he]
    cases t with
    | nil =>
      have h2 := key nil nil none
      have h3 : (node nil none nil : T α).get m = (nil : T α).get m := by
        simp only [get_node, get_nil]
        cases (m == 0) <;> cases (m % 2 == 1) <;> rfl
      rw [h3] at h2
      rw [put_nil]
      exact h2
    | node l v r => rw [put_node]; exact key l r v
theorem get_set (t : T α) (n m : Nat) (x : α) (h : n < 1000000000000) : (t.set n x).get m = if m = n then some x else t.get m := get_put 40 t n m (some x) (Nat.lt_of_lt_of_le (Nat.succ_lt_succ h) (by decide))
theorem get_del (t : T α) (n m : Nat) (h : n < 1000000000000) : (t.del n).get m = if m = n then none else t.get m := get_put 40 t n m none (Nat.lt_of_lt_of_le (Nat.succ_lt_succ h) (by decide))

/-- Every second one: of those at an even place, those at an odd one. -/
noncomputable def alts (l : List α) : List α × List α := List.rec (motive := fun _ => List α × List α) ([], []) (fun x _ p => (x :: p.2, p.1)) l
theorem alts_spec : ∀ (l : List α), (∀ i, (alts l).1[i]? = l[2 * i]?) ∧ (∀ i, (alts l).2[i]? = l[2 * i + 1]?) ∧ 2 * (alts l).1.length ≤ l.length + 1 ∧ 2 * (alts l).2.length ≤ l.length
  | [] => ⟨fun i => by simp [alts], fun i => by simp [alts], by simp [alts], by simp [alts]⟩
  | x :: l => by
    obtain ⟨h1, h2, h3, h4⟩ := alts_spec l
    have e : alts (x :: l) = (x :: (alts l).2, (alts l).1) := rfl
    rw [e]
    refine ⟨fun i => ?_, fun i => ?_, ?_, ?_⟩
    · cases i with
      | zero => rfl
      | succ i => rw [List.getElem?_cons_succ, h2, show 2 * (i + 1) = (2 * i + 1) + 1 by omega, List.getElem?_cons_succ]
    · rw [h1, List.getElem?_cons_succ]
    · simp only [List.length_cons]; omega
    · simp only [List.length_cons]; omega
/-- A trie of a list. -/
noncomputable def build (f : Nat) : List α → T α := Nat.rec (motive := fun _ => List α → T α) (fun _ => nil)
  (fun _ b l => List.casesOn (motive := fun _ => T α) l nil (fun x r => node (b (alts r).1) (some x) (b (alts r).2))) f
theorem build_nil (f : Nat) : build f ([] : List α) = nil := by cases f <;> rfl
theorem build_cons (f : Nat) (x : α) (r : List α) : build (f + 1) (x :: r) = node (build f (alts r).1) (some x) (build f (alts r).2) := rfl
theorem get_build : ∀ (f : Nat) (l : List α) (m : Nat), l.length < 2 ^ f → (build f l).get m = l[m]?
  | f, [], m, h => by rw [build_nil, get_nil]; rfl
  | 0, x :: r, m, h => by simp at h
  | f + 1, x :: r, m, h => by
    have hp : (2 : Nat) ^ (f + 1) = 2 * 2 ^ f := by rw [Nat.pow_succ]; omega
    rw [hp] at h
    obtain ⟨h1, h2, h3, h4⟩ := alts_spec r
    simp only [List.length_cons] at h
    rw [build_cons, get_node]
    by_cases h0 : m = 0
    · subst h0; rfl
    · have e0 : (m == 0) = false := by simpa using h0
      rw [e0, cond_false]
      by_cases hm : m % 2 = 1
      · have e1 : (m % 2 == 1) = true := by simpa using hm
        rw [e1, cond_true, get_build f _ _ (by omega), h1, show m = 2 * (m / 2) + 1 by omega, List.getElem?_cons_succ]
        congr 1
        omega
      · have e1 : (m % 2 == 1) = false := by simpa using hm
        rw [e1, cond_false, get_build f _ _ (by omega), h2, show m = (2 * (m / 2 - 1) + 1) + 1 by omega, List.getElem?_cons_succ]
        congr 1
        omega
/-- A trie of a list (fewer than 2^40). -/
noncomputable def ofL (l : List α) : T α := build 40 l
theorem get_ofL (l : List α) (m : Nat) (h : l.length < 1000000000000) : (ofL l).get m = l[m]? := get_build 40 l m (Nat.lt_of_lt_of_le h (by decide))
end T
end Go.Proofs.YtgdlpgakhhebeaaGreatDoor.Ev
end
section
set_option linter.unusedVariables false
namespace Go.Proofs.YtgdlpgakhhebeaaGreatDoor.Ev
open Go

/-- Where a row lies: block, place, how many cells the block has, how many cells an element of a slice upon it has. -/
structure Pl where
  blk : Nat
  off : Nat
  size : Nat
  stride : Nat
/-- What an abstract value stands for, sg telling where blocks (those below N) lie. -/
inductive VR (sg : Nat → Pl) (N : Nat) : Value → Value → Prop
  | bool (b : Bool) : VR sg N (.bool b) (.bool b)
  | int (k : IntKind) (n : Int) : VR sg N (.int k n) (.int k n)
  | float (k : FloatKind) (n : Nat) : VR sg N (.float k n) (.float k n)
  | complex (k : FloatKind) (m n : Nat) : VR sg N (.complex k m n) (.complex k m n)
  | string (s : ByteArray) : VR sg N (.string s) (.string s)
  | ptrNil : VR sg N (.pointer none) (.pointer none)
  | ptr (b off : Nat) (h : b < N) : VR sg N (.pointer (some ⟨b, off, none⟩)) (.pointer (some ⟨(sg b).1, (sg b).2 + off, none⟩))
  | slNil : VR sg N (.slice none 0 0) (.slice none 0 0)
  | sl (b off n c c' : Nat) (h : b < N) (h0 : 0 < b) (hn : n ≤ c) (hc : c ≤ c') (hr : c = c' ∨ (sg b).2 + off + c' * (sg b).4 ≤ (sg b).3) : VR sg N (.slice (some ⟨b, off, none⟩) n c) (.slice (some ⟨(sg b).1, (sg b).2 + off, none⟩) n c')
  | slE (b off x y : Nat) (h : b < N) (h0 : 0 < b) : VR sg N (.slice (some ⟨b, off, none⟩) 0 0) (.slice (some ⟨x, y, none⟩) 0 0)
  | mapNil : VR sg N (.map none) (.map none)
  | map (b : Nat) (h : b < N) : VR sg N (.map (some b)) (.map (some (sg b).1))
  | chanNil : VR sg N (.chan none) (.chan none)
  | func (fn : Fn) (first captured first' captured' : Array Value) (hf : ∀ l, fn ≠ .yield l) (h1 : first.size = first'.size) (h2 : captured.size = captured'.size)
      (h3 : ∀ (i : Nat) (v v' : Value), first[i]? = some v → first'[i]? = some v' → VR sg N v v') (h4 : ∀ (i : Nat) (v v' : Value), captured[i]? = some v → captured'[i]? = some v' → VR sg N v v') : VR sg N (.func fn first captured) (.func fn first' captured')
  | yield (l : Nat) (h : l < N) : VR sg N (.func (.yield l) #[] #[]) (.func (.yield (sg l).1) #[] #[])
  | nilFunc : VR sg N .nilFunc .nilFunc
  | iface (t : TypeId) (v v' : Value) (h : VR sg N v v') : VR sg N (.iface t v) (.iface t v')
  | nilIface : VR sg N .nilIface .nilIface
  | agg (vs vs' : Array Value) (h1 : vs.size = vs'.size) (h3 : ∀ (i : Nat) (v v' : Value), vs[i]? = some v → vs'[i]? = some v' → VR sg N v v') : VR sg N (.agg vs) (.agg vs')
  | tuple (vs vs' : Array Value) (h1 : vs.size = vs'.size) (h3 : ∀ (i : Nat) (v v' : Value), vs[i]? = some v → vs'[i]? = some v' → VR sg N v v') : VR sg N (.tuple vs) (.tuple vs')

/-- One telling says all that another says, below N. -/
def Ext (N : Nat) (sg sg' : Nat → Pl) : Prop := ∀ b, b < N → sg' b = sg b
theorem Ext.refl (N : Nat) (sg : Nat → Pl) : Ext N sg sg := fun _ _ => rfl
theorem Ext.trans {N N' : Nat} {a b c : Nat → Pl} (h : Ext N a b) (k : Ext N' b c) (hN : N ≤ N') : Ext N a c := fun x hx => (k x (Nat.lt_of_lt_of_le hx hN)).trans (h x hx)
theorem VR.ext {sg sg' : Nat → Pl} {N N' : Nat} {v v' : Value} (h : VR sg N v v') (he : Ext N sg sg') (hN : N ≤ N') : VR sg' N' v v' := by
  induction h with
  | bool b => exact .bool b
  | int k n => exact .int k n
  | float k n => exact .float k n
  | complex k m n => exact .complex k m n
  | string s => exact .string s
  | ptrNil => exact .ptrNil
  | ptr b off h => rw [← he b h]; exact .ptr b off (Nat.lt_of_lt_of_le h hN)
  | slNil => exact .slNil
  | sl b off n c c' h h0 hn hc hr => rw [← he b h]; exact .sl b off n c c' (Nat.lt_of_lt_of_le h hN) h0 hn hc (by rw [he b h]; exact hr)
  | slE b off x y h h0 => exact .slE b off x y (Nat.lt_of_lt_of_le h hN) h0
  | mapNil => exact .mapNil
  | map b h => rw [← he b h]; exact .map b (Nat.lt_of_lt_of_le h hN)
  | chanNil => exact .chanNil
  | func fn f c f' c' hf h1 h2 h3 h4 i3 i4 => exact .func fn f c f' c' hf h1 h2 i3 i4
  | yield l h => rw [← he l h]; exact .yield l (Nat.lt_of_lt_of_le h hN)
  | nilFunc => exact .nilFunc
  | iface t v v' h ih => exact .iface t v v' ih
  | nilIface => exact .nilIface
  | agg vs vs' h1 h3 ih => exact .agg vs vs' h1 ih
  | tuple vs vs' h1 h3 ih => exact .tuple vs vs' h1 ih

/-- A value in which no block stands: fuel for what stands in it. -/
def bare : Nat → Value → Bool
  | _, .bool _ | _, .int .. | _, .string _ | _, .pointer none | _, .map none | _, .chan none | _, .nilFunc | _, .nilIface => true
  | _, .slice none 0 0 => true
  | n + 1, .iface _ v => bare n v
  | n + 1, .agg vs => vs.toList.all (bare n)
  | n + 1, .tuple vs => vs.toList.all (bare n)
  | _, _ => false
theorem bare_all {n : Nat} {vs vs' : Array Value} {sg : Nat → Pl} {N : Nat} (h1 : vs.size = vs'.size) (h3 : ∀ (i : Nat) (v v' : Value), vs[i]? = some v → vs'[i]? = some v' → VR sg N v v')
    (ih : ∀ (v v' : Value), bare n v = true → VR sg N v v' → v' = v) (h : vs.toList.all (bare n) = true) : vs' = vs := by
  apply Array.ext h1.symm
  intro i hi hi'
  refine ih _ _ ?_ (h3 i _ _ (Array.getElem?_eq_getElem hi') (Array.getElem?_eq_getElem hi))
  rw [List.all_eq_true] at h
  exact h _ (Array.getElem_mem_toList hi')
theorem VR.bare_eq {sg : Nat → Pl} {N : Nat} : ∀ (n : Nat) (v v' : Value), bare n v = true → VR sg N v v' → v' = v
  | n, v, v', hb, h => by
    cases h with
    | bool b => rfl
    | int k m => rfl
    | float k m => rfl
    | complex k m p => rfl
    | string s => rfl
    | ptrNil => rfl
    | ptr b off h => cases n <;> simp [bare] at hb
    | slNil => rfl
    | sl b off m c c' h h0 hn hc hr => cases n <;> simp [bare] at hb
    | slE b off x y h h0 => cases n <;> simp [bare] at hb
    | mapNil => rfl
    | map b h => cases n <;> simp [bare] at hb
    | chanNil => rfl
    | func fn f c f' c' hf h1 h2 h3 h4 => cases n <;> simp [bare] at hb
    | yield l h => cases n <;> simp [bare] at hb
    | nilFunc => rfl
    | iface t v v' h =>
      cases n with
      | zero => simp [bare] at hb
      | succ n => rw [VR.bare_eq n v v' hb h]
    | nilIface => rfl
    | agg vs vs' h1 h3 =>
      cases n with
      | zero => simp [bare] at hb
      | succ n => rw [bare_all h1 h3 (VR.bare_eq n) hb]
    | tuple vs vs' h1 h3 =>
      cases n with
      | zero => simp [bare] at hb
      | succ n => rw [bare_all h1 h3 (VR.bare_eq n) hb]
theorem VR.of_bare {sg : Nat → Pl} {N : Nat} : ∀ (n : Nat) (v : Value), bare n v = true → VR sg N v v
  | n, v, hb => by
    cases v with
    | bool b => exact .bool b
    | int k m => exact .int k m
    | float k m => exact .float k m
    | complex k m p => exact .complex k m p
    | string s => exact .string s
    | pointer a =>
      cases a with
      | none => exact .ptrNil
      | some a => cases n <;> simp [bare] at hb
    | slice a m c =>
      cases a with
      | none =>
        cases m with
        | zero =>
          cases c with
          | zero => exact .slNil
          | succ c => cases n <;> simp [bare] at hb
        | succ m => cases n <;> simp [bare] at hb
      | some a => cases n <;> simp [bare] at hb
    | map r =>
      cases r with
      | none => exact .mapNil
      | some r => cases n <;> simp [bare] at hb
    | chan r =>
      cases r with
      | none => exact .chanNil
      | some r => cases n <;> simp [bare] at hb
    | func fn f c => cases n <;> simp [bare] at hb
    | nilFunc => exact .nilFunc
    | iface t v =>
      cases n with
      | zero => simp [bare] at hb
      | succ n => exact .iface t v v (VR.of_bare n v hb)
    | nilIface => exact .nilIface
    | agg vs =>
      cases n with
      | zero => simp [bare] at hb
      | succ n =>
        refine .agg vs vs rfl (fun i v v' h h' => ?_)
        rw [h] at h'; cases h'
        have hb' : vs.toList.all (bare n) = true := hb
        rw [List.all_eq_true] at hb'
        obtain ⟨hi, rfl⟩ := Array.getElem?_eq_some_iff.1 h
        exact VR.of_bare n _ (hb' _ (Array.getElem_mem_toList hi))
    | tuple vs =>
      cases n with
      | zero => simp [bare] at hb
      | succ n =>
        refine .tuple vs vs rfl (fun i v v' h h' => ?_)
        rw [h] at h'; cases h'
        have hb' : vs.toList.all (bare n) = true := hb
        rw [List.all_eq_true] at hb'
        obtain ⟨hi, rfl⟩ := Array.getElem?_eq_some_iff.1 h
        exact VR.of_bare n _ (hb' _ (Array.getElem_mem_toList hi))

/-- A run that looks at nothing but the program. -/
def pureRun {α : Type} (P : Program) : Sem α → Option α
  | .pure a => some a
  | .program k => pureRun P (k P)
  | .mark _ k => pureRun P k
  | _ => none
theorem pureRun_run {α : Type} {P : Program} : ∀ (s : Sem α) (a : α), pureRun P s = some a → ∀ w, s.run P w = .ok a w
  | .pure b, a, h, w => by
    have : b = a := by simpa [pureRun] using h
    subst this; rfl
  | .program k, a, h, w => pureRun_run (k P) a h w
  | .mark _ k, a, h, w => pureRun_run k a h w
  | .load .., a, h, w => by simp [pureRun] at h
  | .store .., a, h, w => by simp [pureRun] at h
  | .new .., a, h, w => by simp [pureRun] at h
  | .shape .., a, h, w => by simp [pureRun] at h
  | .freeze .., a, h, w => by simp [pureRun] at h
  | .frozen .., a, h, w => by simp [pureRun] at h
  | .getObj .., a, h, w => by simp [pureRun] at h
  | .setObj .., a, h, w => by simp [pureRun] at h
  | .choose .., a, h, w => by simp [pureRun] at h
  | .sys .., a, h, w => by simp [pureRun] at h
  | .halt _, a, h, w => by simp [pureRun] at h
end Go.Proofs.YtgdlpgakhhebeaaGreatDoor.Ev
end
