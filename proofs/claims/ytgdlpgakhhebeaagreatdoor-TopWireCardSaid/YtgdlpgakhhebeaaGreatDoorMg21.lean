/- Part 21 of the proof of TopWire: Prt, Fal. -/
import Derived.Test.YtgdlpgakhhebeaaGreatDoorMg20
section
set_option linter.unusedVariables false
set_option linter.unusedSimpArgs false
namespace Go.Proofs.YtgdlpgakhhebeaaGreatDoor
open Go.RowKit Go.Proofs.YtgdlpgakhhebeaaGreatDoorW.PrintWords Go.Proofs.YtgdlpgakhhebeaaGreatDoorW.PrintMore
attribute [local go_sem] Oper.semAt_some

theorem zig_put (n : Int) (h : -1000000 ≤ n ∧ n ≤ 1000000) : P.varint_Put.f 30 [zig n] = some (put1 (zig n)) ∧ (put1 (zig n)).length ≤ 3 := by
  have h6 : zig n < 128 ^ 3 ∧ 0 ≤ zig n := by
    by_cases h0 : 0 ≤ n
    · rw [zig_pos _ h0 (by omega)]; omega
    · rw [zig_neg _ (by omega) (by omega)]; omega
  have := put1_some (zig n) 2 h6.2 h6.1 (by omega)
  exact ⟨this.1, this.2.2⟩
set_option maxRecDepth 100000 in
set_option maxHeartbeats 4000000 in
theorem part_call (m : Ms) (f : P.S150) (hf : okF f) (hw : wrongM m f = 0) (w : World) (Ap : Option Addr) (cp : Nat) (Ac : Option Addr) (cc : Nat) (h : MsR w m Ap cp Ac cc) (hm : Fit m) :
    Calls Tryz.prog 98 #[mV m Ap cp Ac cc, fV f] w fun e w' => ∃ v, e = .returned v ∧ Kd.R (Kd.int .u8) 5 w' w.heap.size (fun _ => True) v (prt m f) ∧ Below w.heap.size w w' := by
  have HX : Hid (prt m f = _) := Lib.hid (by unfold prt; rfl)
  have HL := Lib.hid (prt_len m f hm.path hm.cells hf hw).2
  have HW := Lib.hid hw
  unfold wrongM at HW
  have hfb : fbd f ≤ 192 := by unfold fbd; repeat' split
                               all_goals omega
  have HFB := Lib.hid (Nat.le_trans HL.out hfb)
  have HM := Lib.hid (And.intro h hm)
  generalize prt m f = R at *
  clear h hm hw HL hfb
  unfold mV Ms.cs fV
  go_enter Tryz.func98, Tryz.ntmps98
  go_wp2_with (fail)
  refine (penNew_call _).mono ?_
  rintro e w1 ⟨rfl, hP, hb⟩
  have h0 := (hb.block w.heap.size (by simp; omega)).trans (al2_a w _ _)
  have h1 := (hb.block (w.heap.size + 1) (by simp)).trans (al2_b w _ _)
  have hB : Below w.heap.size w w1 := (((Below.refl _ w).alloc (Nat.le_refl _) _).alloc (by simp) _).trans (hb.mono (by simp; omega))
  simp only [World.size_alloc] at hP ⊢
  have hz : w.heap.size + 1 + 1 ≤ w1.heap.size := by have := hP.lt; omega
  have H1 := Lib.hid (And.intro hP (And.intro hB hz))
  have hgl := hP.lt
  have q0 : w1.cell? ⟨w.heap.size, 0, none⟩ = some (.int .i64 m.k) := cell_at h0 rfl
  have q1 : w1.cell? ⟨w.heap.size, 1, none⟩ = some (.int .i64 m.n0) := cell_at h0 rfl
  have q2 : w1.cell? ⟨w.heap.size, 2, none⟩ = some (.int .i64 m.n1) := cell_at h0 rfl
  have q3 : w1.cell? ⟨w.heap.size, 3, none⟩ = some (.int .i64 m.n2) := cell_at h0 rfl
  have q4 : w1.cell? ⟨w.heap.size, 4, none⟩ = some (.int .i64 m.n3) := cell_at h0 rfl
  have q5 : w1.cell? ⟨w.heap.size, 5, none⟩ = some (.int .i64 m.n4) := cell_at h0 rfl
  have q6 : w1.cell? ⟨w.heap.size, 6, none⟩ = some (.int .i64 m.n5) := cell_at h0 rfl
  have q7 : w1.cell? ⟨w.heap.size, 7, none⟩ = some (.slice Ap m.path.length cp) := cell_at h0 rfl
  have q8 : w1.cell? ⟨w.heap.size, 8, none⟩ = some (.slice Ac m.cells.length cc) := cell_at h0 rfl
  have q9 : w1.cell? ⟨w.heap.size, 9, none⟩ = some (.string m.text) := cell_at h0 rfl
  have q10 : w1.cell? ⟨w.heap.size, 10, none⟩ = some (.string m.tag) := cell_at h0 rfl
  have t0 : w1.cell? ⟨(w.heap.size + 1), 0, none⟩ = some (.string f.f0) := cell_at h1 rfl
  have t1 : w1.cell? ⟨(w.heap.size + 1), 1, none⟩ = some (.int .i64 f.f1) := cell_at h1 rfl
  have t2 : w1.cell? ⟨(w.heap.size + 1), 2, none⟩ = some (.int .i64 f.f2) := cell_at h1 rfl
  have t3 : w1.cell? ⟨(w.heap.size + 1), 3, none⟩ = some (.int .i64 f.f3) := cell_at h1 rfl
  have t4 : w1.cell? ⟨(w.heap.size + 1), 4, none⟩ = some (.int .i64 f.f4) := cell_at h1 rfl
  have t5 : w1.cell? ⟨(w.heap.size + 1), 5, none⟩ = some (.int .i64 f.f5) := cell_at h1 rfl
  have t6 : w1.cell? ⟨(w.heap.size + 1), 6, none⟩ = some (.int .i64 f.f6) := cell_at h1 rfl
  clear h0 h1 hB hz hb hP
  have HFF := Lib.hid hf
  unfold okF at hf
  obtain ⟨g, hg⟩ : ∃ g, w.heap.size + 1 + 1 = g := ⟨_, rfl⟩
  have HG := Lib.hid hg
  rw [hg] at H1 hgl ⊢
  clear hg
  rcases hf with ⟨c1, hN, hl0, hl1⟩ | ⟨c1, hN, hl0, hl1⟩ | ⟨c1, hl1⟩ | ⟨c1, hl1⟩ | ⟨c1, hl1⟩ | ⟨c1, hl1⟩
  · have hr : f.f3 ≤ getN m f.f2 ∧ getN m f.f2 ≤ f.f4 := by
      have := HW.out
      rw [c1] at this
      simp only [reduceIte, Int.reduceEq] at this
      split at this <;> omega
    have hpn := put1_some (getN m f.f2) 2 (by omega) (by omega) (by omega)
    have HR : Hid (R = put1 (getN m f.f2)) := Lib.hid (by rw [HX.out, c1]; rfl)
    have h05 : f.f2 = 0 ∨ f.f2 = 1 ∨ f.f2 = 2 ∨ f.f2 = 3 ∨ f.f2 = 4 ∨ f.f2 = 5 := by omega
    have hnn : 0 ≤ getN m f.f2 ∧ getN m f.f2 ≤ 1000000 := by omega
    rw [c1] at t1
    clear hN hl0 hl1 hr HX HW c1
    obtain ⟨a, ha⟩ : ∃ a, f.f2 = a := ⟨_, rfl⟩
    rw [ha] at t2 hpn HR h05 hnn
    clear ha
    rcases h05 with rfl | rfl | rfl | rfl | rfl | rfl
    · have hpn : P.varint_Put.f 30 [m.n0] = some (put1 m.n0) ∧ 1 ≤ (put1 m.n0).length ∧ (put1 m.n0).length ≤ 3 := hpn
      have hnn : 0 ≤ m.n0 ∧ m.n0 ≤ 1000000 := hnn
      have HR : Hid (R = put1 m.n0) := HR
      generalize m.n0 = n at *
      have e1 : n % 18446744073709551616 = n := by omega
      have bA : Below w1.heap.size w1 (w1.alloc (.cells #[.int .u64 n] 35)) := (Below.refl _ w1).alloc (Nat.le_refl _) _
      have hnum := penNumber_call (w1.alloc (.cells #[.int .u64 n] 35)) g [] (put1 n) [n] 30 (H1.out.1.below bA) (some ⟨w1.heap.size, 0, none⟩) 1 (C_block .u64 [n] (World.alloc_heap_new w1 _) (by simp)) (by simp) hpn.1 (by simp; omega)
      have HN := Lib.hid (And.intro hnum (PenK.of_below bA (Nat.le_of_lt hgl)))
      clear hnum bA hpn
      go_wp2_with (fail)
      refine HN.out.1.mono ?_
      rintro e w2 ⟨rfl, k1, k2⟩
      rw [List.nil_append, ← HR.out] at k1
      have k2 := HN.out.2.trans k2
      clear HN
      have HY := Lib.hid (penBytes_call w2 g R k1 HFB.out)
      have HZ := Lib.hid (And.intro (H1.out.2.1.trans (k2.below.mono (by have := HG.out; omega))) (Nat.le_trans H1.out.2.2 k2.below.size))
      clear k1 k2
      go_wp2_with (fail)
      refine HY.out.mono ?_
      rintro e w3 ⟨v3, rfl, hR, hb⟩
      have HE := Lib.hid (And.intro (Kd.R_lower hR (by have := HZ.out.2; have := HG.out; omega) : Kd.R (Kd.int .u8) 5 w3 w.heap.size (fun _ => True) v3 R) (HZ.out.1.trans (hb.mono (by have := HZ.out.2; have := HG.out; omega))))
      clear hR hb HY
      go_wp2_with (fail)
      exact bodyPost_ret (v := v3) (by simp [results, Tryz.results98, go_sem]) rfl ⟨v3, rfl, HE.out.1, HE.out.2⟩
    · have hpn : P.varint_Put.f 30 [m.n1] = some (put1 m.n1) ∧ 1 ≤ (put1 m.n1).length ∧ (put1 m.n1).length ≤ 3 := hpn
      have hnn : 0 ≤ m.n1 ∧ m.n1 ≤ 1000000 := hnn
      have HR : Hid (R = put1 m.n1) := HR
      generalize m.n1 = n at *
      have e1 : n % 18446744073709551616 = n := by omega
      have bA : Below w1.heap.size w1 (w1.alloc (.cells #[.int .u64 n] 35)) := (Below.refl _ w1).alloc (Nat.le_refl _) _
      have hnum := penNumber_call (w1.alloc (.cells #[.int .u64 n] 35)) g [] (put1 n) [n] 30 (H1.out.1.below bA) (some ⟨w1.heap.size, 0, none⟩) 1 (C_block .u64 [n] (World.alloc_heap_new w1 _) (by simp)) (by simp) hpn.1 (by simp; omega)
      have HN := Lib.hid (And.intro hnum (PenK.of_below bA (Nat.le_of_lt hgl)))
      clear hnum bA hpn
      go_wp2_with (fail)
      refine HN.out.1.mono ?_
      rintro e w2 ⟨rfl, k1, k2⟩
      rw [List.nil_append, ← HR.out] at k1
      have k2 := HN.out.2.trans k2
      clear HN
      have HY := Lib.hid (penBytes_call w2 g R k1 HFB.out)
      have HZ := Lib.hid (And.intro (H1.out.2.1.trans (k2.below.mono (by have := HG.out; omega))) (Nat.le_trans H1.out.2.2 k2.below.size))
      clear k1 k2
      go_wp2_with (fail)
      refine HY.out.mono ?_
      rintro e w3 ⟨v3, rfl, hR, hb⟩
      have HE := Lib.hid (And.intro (Kd.R_lower hR (by have := HZ.out.2; have := HG.out; omega) : Kd.R (Kd.int .u8) 5 w3 w.heap.size (fun _ => True) v3 R) (HZ.out.1.trans (hb.mono (by have := HZ.out.2; have := HG.out; omega))))
      clear hR hb HY
      go_wp2_with (fail)
      exact bodyPost_ret (v := v3) (by simp [results, Tryz.results98, go_sem]) rfl ⟨v3, rfl, HE.out.1, HE.out.2⟩
    · have hpn : P.varint_Put.f 30 [m.n2] = some (put1 m.n2) ∧ 1 ≤ (put1 m.n2).length ∧ (put1 m.n2).length ≤ 3 := hpn
      have hnn : 0 ≤ m.n2 ∧ m.n2 ≤ 1000000 := hnn
      have HR : Hid (R = put1 m.n2) := HR
      generalize m.n2 = n at *
      have e1 : n % 18446744073709551616 = n := by omega
      have bA : Below w1.heap.size w1 (w1.alloc (.cells #[.int .u64 n] 35)) := (Below.refl _ w1).alloc (Nat.le_refl _) _
      have hnum := penNumber_call (w1.alloc (.cells #[.int .u64 n] 35)) g [] (put1 n) [n] 30 (H1.out.1.below bA) (some ⟨w1.heap.size, 0, none⟩) 1 (C_block .u64 [n] (World.alloc_heap_new w1 _) (by simp)) (by simp) hpn.1 (by simp; omega)
      have HN := Lib.hid (And.intro hnum (PenK.of_below bA (Nat.le_of_lt hgl)))
      clear hnum bA hpn
      go_wp2_with (fail)
      refine HN.out.1.mono ?_
      rintro e w2 ⟨rfl, k1, k2⟩
      rw [List.nil_append, ← HR.out] at k1
      have k2 := HN.out.2.trans k2
      clear HN
      have HY := Lib.hid (penBytes_call w2 g R k1 HFB.out)
      have HZ := Lib.hid (And.intro (H1.out.2.1.trans (k2.below.mono (by have := HG.out; omega))) (Nat.le_trans H1.out.2.2 k2.below.size))
      clear k1 k2
      go_wp2_with (fail)
      refine HY.out.mono ?_
      rintro e w3 ⟨v3, rfl, hR, hb⟩
      have HE := Lib.hid (And.intro (Kd.R_lower hR (by have := HZ.out.2; have := HG.out; omega) : Kd.R (Kd.int .u8) 5 w3 w.heap.size (fun _ => True) v3 R) (HZ.out.1.trans (hb.mono (by have := HZ.out.2; have := HG.out; omega))))
      clear hR hb HY
      go_wp2_with (fail)
      exact bodyPost_ret (v := v3) (by simp [results, Tryz.results98, go_sem]) rfl ⟨v3, rfl, HE.out.1, HE.out.2⟩
    · have hpn : P.varint_Put.f 30 [m.n3] = some (put1 m.n3) ∧ 1 ≤ (put1 m.n3).length ∧ (put1 m.n3).length ≤ 3 := hpn
      have hnn : 0 ≤ m.n3 ∧ m.n3 ≤ 1000000 := hnn
      have HR : Hid (R = put1 m.n3) := HR
      generalize m.n3 = n at *
      have e1 : n % 18446744073709551616 = n := by omega
      have bA : Below w1.heap.size w1 (w1.alloc (.cells #[.int .u64 n] 35)) := (Below.refl _ w1).alloc (Nat.le_refl _) _
      have hnum := penNumber_call (w1.alloc (.cells #[.int .u64 n] 35)) g [] (put1 n) [n] 30 (H1.out.1.below bA) (some ⟨w1.heap.size, 0, none⟩) 1 (C_block .u64 [n] (World.alloc_heap_new w1 _) (by simp)) (by simp) hpn.1 (by simp; omega)
      have HN := Lib.hid (And.intro hnum (PenK.of_below bA (Nat.le_of_lt hgl)))
      clear hnum bA hpn
      go_wp2_with (fail)
      refine HN.out.1.mono ?_
      rintro e w2 ⟨rfl, k1, k2⟩
      rw [List.nil_append, ← HR.out] at k1
      have k2 := HN.out.2.trans k2
      clear HN
      have HY := Lib.hid (penBytes_call w2 g R k1 HFB.out)
      have HZ := Lib.hid (And.intro (H1.out.2.1.trans (k2.below.mono (by have := HG.out; omega))) (Nat.le_trans H1.out.2.2 k2.below.size))
      clear k1 k2
      go_wp2_with (fail)
      refine HY.out.mono ?_
      rintro e w3 ⟨v3, rfl, hR, hb⟩
      have HE := Lib.hid (And.intro (Kd.R_lower hR (by have := HZ.out.2; have := HG.out; omega) : Kd.R (Kd.int .u8) 5 w3 w.heap.size (fun _ => True) v3 R) (HZ.out.1.trans (hb.mono (by have := HZ.out.2; have := HG.out; omega))))
      clear hR hb HY
      go_wp2_with (fail)
      exact bodyPost_ret (v := v3) (by simp [results, Tryz.results98, go_sem]) rfl ⟨v3, rfl, HE.out.1, HE.out.2⟩
    · have hpn : P.varint_Put.f 30 [m.n4] = some (put1 m.n4) ∧ 1 ≤ (put1 m.n4).length ∧ (put1 m.n4).length ≤ 3 := hpn
      have hnn : 0 ≤ m.n4 ∧ m.n4 ≤ 1000000 := hnn
      have HR : Hid (R = put1 m.n4) := HR
      generalize m.n4 = n at *
      have e1 : n % 18446744073709551616 = n := by omega
      have bA : Below w1.heap.size w1 (w1.alloc (.cells #[.int .u64 n] 35)) := (Below.refl _ w1).alloc (Nat.le_refl _) _
      have hnum := penNumber_call (w1.alloc (.cells #[.int .u64 n] 35)) g [] (put1 n) [n] 30 (H1.out.1.below bA) (some ⟨w1.heap.size, 0, none⟩) 1 (C_block .u64 [n] (World.alloc_heap_new w1 _) (by simp)) (by simp) hpn.1 (by simp; omega)
      have HN := Lib.hid (And.intro hnum (PenK.of_below bA (Nat.le_of_lt hgl)))
      clear hnum bA hpn
      go_wp2_with (fail)
      refine HN.out.1.mono ?_
      rintro e w2 ⟨rfl, k1, k2⟩
      rw [List.nil_append, ← HR.out] at k1
      have k2 := HN.out.2.trans k2
      clear HN
      have HY := Lib.hid (penBytes_call w2 g R k1 HFB.out)
      have HZ := Lib.hid (And.intro (H1.out.2.1.trans (k2.below.mono (by have := HG.out; omega))) (Nat.le_trans H1.out.2.2 k2.below.size))
      clear k1 k2
      go_wp2_with (fail)
      refine HY.out.mono ?_
      rintro e w3 ⟨v3, rfl, hR, hb⟩
      have HE := Lib.hid (And.intro (Kd.R_lower hR (by have := HZ.out.2; have := HG.out; omega) : Kd.R (Kd.int .u8) 5 w3 w.heap.size (fun _ => True) v3 R) (HZ.out.1.trans (hb.mono (by have := HZ.out.2; have := HG.out; omega))))
      clear hR hb HY
      go_wp2_with (fail)
      exact bodyPost_ret (v := v3) (by simp [results, Tryz.results98, go_sem]) rfl ⟨v3, rfl, HE.out.1, HE.out.2⟩
    · have hpn : P.varint_Put.f 30 [m.n5] = some (put1 m.n5) ∧ 1 ≤ (put1 m.n5).length ∧ (put1 m.n5).length ≤ 3 := hpn
      have hnn : 0 ≤ m.n5 ∧ m.n5 ≤ 1000000 := hnn
      have HR : Hid (R = put1 m.n5) := HR
      generalize m.n5 = n at *
      have e1 : n % 18446744073709551616 = n := by omega
      have bA : Below w1.heap.size w1 (w1.alloc (.cells #[.int .u64 n] 35)) := (Below.refl _ w1).alloc (Nat.le_refl _) _
      have hnum := penNumber_call (w1.alloc (.cells #[.int .u64 n] 35)) g [] (put1 n) [n] 30 (H1.out.1.below bA) (some ⟨w1.heap.size, 0, none⟩) 1 (C_block .u64 [n] (World.alloc_heap_new w1 _) (by simp)) (by simp) hpn.1 (by simp; omega)
      have HN := Lib.hid (And.intro hnum (PenK.of_below bA (Nat.le_of_lt hgl)))
      clear hnum bA hpn
      go_wp2_with (fail)
      refine HN.out.1.mono ?_
      rintro e w2 ⟨rfl, k1, k2⟩
      rw [List.nil_append, ← HR.out] at k1
      have k2 := HN.out.2.trans k2
      clear HN
      have HY := Lib.hid (penBytes_call w2 g R k1 HFB.out)
      have HZ := Lib.hid (And.intro (H1.out.2.1.trans (k2.below.mono (by have := HG.out; omega))) (Nat.le_trans H1.out.2.2 k2.below.size))
      clear k1 k2
      go_wp2_with (fail)
      refine HY.out.mono ?_
      rintro e w3 ⟨v3, rfl, hR, hb⟩
      have HE := Lib.hid (And.intro (Kd.R_lower hR (by have := HZ.out.2; have := HG.out; omega) : Kd.R (Kd.int .u8) 5 w3 w.heap.size (fun _ => True) v3 R) (HZ.out.1.trans (hb.mono (by have := HZ.out.2; have := HG.out; omega))))
      clear hR hb HY
      go_wp2_with (fail)
      exact bodyPost_ret (v := v3) (by simp [results, Tryz.results98, go_sem]) rfl ⟨v3, rfl, HE.out.1, HE.out.2⟩
  · have hr : f.f3 ≤ getN m f.f2 ∧ getN m f.f2 ≤ f.f4 := by
      have := HW.out
      rw [c1] at this
      simp only [reduceIte, Int.reduceEq] at this
      split at this <;> omega
    have hpn := zig_put (getN m f.f2) (by omega)
    have HR : Hid (R = put1 (zig (getN m f.f2))) := Lib.hid (by rw [HX.out, c1]; rfl)
    have h05 : f.f2 = 0 ∨ f.f2 = 1 ∨ f.f2 = 2 ∨ f.f2 = 3 ∨ f.f2 = 4 ∨ f.f2 = 5 := by omega
    rw [c1] at t1
    clear hN hl0 hl1 hr HX HW c1
    obtain ⟨a, ha⟩ : ∃ a, f.f2 = a := ⟨_, rfl⟩
    rw [ha] at t2 hpn HR h05
    clear ha
    rcases h05 with rfl | rfl | rfl | rfl | rfl | rfl
    · have hpn : P.varint_Put.f 30 [zig m.n0] = some (put1 (zig m.n0)) ∧ (put1 (zig m.n0)).length ≤ 3 := hpn
      have HR : Hid (R = put1 (zig m.n0)) := HR
      generalize m.n0 = n at *
      have bA : Below w1.heap.size w1 (w1.alloc (.cells #[.int .i64 n] 2)) := (Below.refl _ w1).alloc (Nat.le_refl _) _
      have hnum := penSigned_call (w1.alloc (.cells #[.int .i64 n] 2)) g [] (put1 (zig n)) [n] 30 (H1.out.1.below bA) ⟨w1.heap.size, 0, none⟩ 1 (C_block .i64 [n] (World.alloc_heap_new w1 _) (by simp)) (by simp) (by simp) hpn.1 (by simp; omega)
      have HN := Lib.hid (And.intro hnum (PenK.of_below bA (Nat.le_of_lt hgl)))
      clear hnum bA hpn
      go_wp2_with (fail)
      refine HN.out.1.mono ?_
      rintro e w2 ⟨rfl, k1, k2⟩
      rw [List.nil_append, ← HR.out] at k1
      have k2 := HN.out.2.trans k2
      clear HN
      have HY := Lib.hid (penBytes_call w2 g R k1 HFB.out)
      have HZ := Lib.hid (And.intro (H1.out.2.1.trans (k2.below.mono (by have := HG.out; omega))) (Nat.le_trans H1.out.2.2 k2.below.size))
      clear k1 k2
      go_wp2_with (fail)
      refine HY.out.mono ?_
      rintro e w3 ⟨v3, rfl, hR, hb⟩
      have HE := Lib.hid (And.intro (Kd.R_lower hR (by have := HZ.out.2; have := HG.out; omega) : Kd.R (Kd.int .u8) 5 w3 w.heap.size (fun _ => True) v3 R) (HZ.out.1.trans (hb.mono (by have := HZ.out.2; have := HG.out; omega))))
      clear hR hb HY
      go_wp2_with (fail)
      exact bodyPost_ret (v := v3) (by simp [results, Tryz.results98, go_sem]) rfl ⟨v3, rfl, HE.out.1, HE.out.2⟩
    · have hpn : P.varint_Put.f 30 [zig m.n1] = some (put1 (zig m.n1)) ∧ (put1 (zig m.n1)).length ≤ 3 := hpn
      have HR : Hid (R = put1 (zig m.n1)) := HR
      generalize m.n1 = n at *
      have bA : Below w1.heap.size w1 (w1.alloc (.cells #[.int .i64 n] 2)) := (Below.refl _ w1).alloc (Nat.le_refl _) _
      have hnum := penSigned_call (w1.alloc (.cells #[.int .i64 n] 2)) g [] (put1 (zig n)) [n] 30 (H1.out.1.below bA) ⟨w1.heap.size, 0, none⟩ 1 (C_block .i64 [n] (World.alloc_heap_new w1 _) (by simp)) (by simp) (by simp) hpn.1 (by simp; omega)
      have HN := Lib.hid (And.intro hnum (PenK.of_below bA (Nat.le_of_lt hgl)))
      clear hnum bA hpn
      go_wp2_with (fail)
      refine HN.out.1.mono ?_
      rintro e w2 ⟨rfl, k1, k2⟩
      rw [List.nil_append, ← HR.out] at k1
      have k2 := HN.out.2.trans k2
      clear HN
      have HY := Lib.hid (penBytes_call w2 g R k1 HFB.out)
      have HZ := Lib.hid (And.intro (H1.out.2.1.trans (k2.below.mono (by have := HG.out; omega))) (Nat.le_trans H1.out.2.2 k2.below.size))
      clear k1 k2
      go_wp2_with (fail)
      refine HY.out.mono ?_
      rintro e w3 ⟨v3, rfl, hR, hb⟩
      have HE := Lib.hid (And.intro (Kd.R_lower hR (by have := HZ.out.2; have := HG.out; omega) : Kd.R (Kd.int .u8) 5 w3 w.heap.size (fun _ => True) v3 R) (HZ.out.1.trans (hb.mono (by have := HZ.out.2; have := HG.out; omega))))
      clear hR hb HY
      go_wp2_with (fail)
      exact bodyPost_ret (v := v3) (by simp [results, Tryz.results98, go_sem]) rfl ⟨v3, rfl, HE.out.1, HE.out.2⟩
    · have hpn : P.varint_Put.f 30 [zig m.n2] = some (put1 (zig m.n2)) ∧ (put1 (zig m.n2)).length ≤ 3 := hpn
      have HR : Hid (R = put1 (zig m.n2)) := HR
      generalize m.n2 = n at *
      have bA : Below w1.heap.size w1 (w1.alloc (.cells #[.int .i64 n] 2)) := (Below.refl _ w1).alloc (Nat.le_refl _) _
      have hnum := penSigned_call (w1.alloc (.cells #[.int .i64 n] 2)) g [] (put1 (zig n)) [n] 30 (H1.out.1.below bA) ⟨w1.heap.size, 0, none⟩ 1 (C_block .i64 [n] (World.alloc_heap_new w1 _) (by simp)) (by simp) (by simp) hpn.1 (by simp; omega)
      have HN := Lib.hid (And.intro hnum (PenK.of_below bA (Nat.le_of_lt hgl)))
      clear hnum bA hpn
      go_wp2_with (fail)
      refine HN.out.1.mono ?_
      rintro e w2 ⟨rfl, k1, k2⟩
      rw [List.nil_append, ← HR.out] at k1
      have k2 := HN.out.2.trans k2
      clear HN
      have HY := Lib.hid (penBytes_call w2 g R k1 HFB.out)
      have HZ := Lib.hid (And.intro (H1.out.2.1.trans (k2.below.mono (by have := HG.out; omega))) (Nat.le_trans H1.out.2.2 k2.below.size))
      clear k1 k2
      go_wp2_with (fail)
      refine HY.out.mono ?_
      rintro e w3 ⟨v3, rfl, hR, hb⟩
      have HE := Lib.hid (And.intro (Kd.R_lower hR (by have := HZ.out.2; have := HG.out; omega) : Kd.R (Kd.int .u8) 5 w3 w.heap.size (fun _ => True) v3 R) (HZ.out.1.trans (hb.mono (by have := HZ.out.2; have := HG.out; omega))))
      clear hR hb HY
      go_wp2_with (fail)
      exact bodyPost_ret (v := v3) (by simp [results, Tryz.results98, go_sem]) rfl ⟨v3, rfl, HE.out.1, HE.out.2⟩
    · have hpn : P.varint_Put.f 30 [zig m.n3] = some (put1 (zig m.n3)) ∧ (put1 (zig m.n3)).length ≤ 3 := hpn
      have HR : Hid (R = put1 (zig m.n3)) := HR
      generalize m.n3 = n at *
      have bA : Below w1.heap.size w1 (w1.alloc (.cells #[.int .i64 n] 2)) := (Below.refl _ w1).alloc (Nat.le_refl _) _
      have hnum := penSigned_call (w1.alloc (.cells #[.int .i64 n] 2)) g [] (put1 (zig n)) [n] 30 (H1.out.1.below bA) ⟨w1.heap.size, 0, none⟩ 1 (C_block .i64 [n] (World.alloc_heap_new w1 _) (by simp)) (by simp) (by simp) hpn.1 (by simp; omega)
      have HN := Lib.hid (And.intro hnum (PenK.of_below bA (Nat.le_of_lt hgl)))
      clear hnum bA hpn
      go_wp2_with (fail)
      refine HN.out.1.mono ?_
      rintro e w2 ⟨rfl, k1, k2⟩
      rw [List.nil_append, ← HR.out] at k1
      have k2 := HN.out.2.trans k2
      clear HN
      have HY := Lib.hid (penBytes_call w2 g R k1 HFB.out)
      have HZ := Lib.hid (And.intro (H1.out.2.1.trans (k2.below.mono (by have := HG.out; omega))) (Nat.le_trans H1.out.2.2 k2.below.size))
      clear k1 k2
      go_wp2_with (fail)
      refine HY.out.mono ?_
      rintro e w3 ⟨v3, rfl, hR, hb⟩
      have HE := Lib.hid (And.intro (Kd.R_lower hR (by have := HZ.out.2; have := HG.out; omega) : Kd.R (Kd.int .u8) 5 w3 w.heap.size (fun _ => True) v3 R) (HZ.out.1.trans (hb.mono (by have := HZ.out.2; have := HG.out; omega))))
      clear hR hb HY
      go_wp2_with (fail)
      exact bodyPost_ret (v := v3) (by simp [results, Tryz.results98, go_sem]) rfl ⟨v3, rfl, HE.out.1, HE.out.2⟩
    · have hpn : P.varint_Put.f 30 [zig m.n4] = some (put1 (zig m.n4)) ∧ (put1 (zig m.n4)).length ≤ 3 := hpn
      have HR : Hid (R = put1 (zig m.n4)) := HR
      generalize m.n4 = n at *
      have bA : Below w1.heap.size w1 (w1.alloc (.cells #[.int .i64 n] 2)) := (Below.refl _ w1).alloc (Nat.le_refl _) _
      have hnum := penSigned_call (w1.alloc (.cells #[.int .i64 n] 2)) g [] (put1 (zig n)) [n] 30 (H1.out.1.below bA) ⟨w1.heap.size, 0, none⟩ 1 (C_block .i64 [n] (World.alloc_heap_new w1 _) (by simp)) (by simp) (by simp) hpn.1 (by simp; omega)
      have HN := Lib.hid (And.intro hnum (PenK.of_below bA (Nat.le_of_lt hgl)))
      clear hnum bA hpn
      go_wp2_with (fail)
      refine HN.out.1.mono ?_
      rintro e w2 ⟨rfl, k1, k2⟩
      rw [List.nil_append, ← HR.out] at k1
      have k2 := HN.out.2.trans k2
      clear HN
      have HY := Lib.hid (penBytes_call w2 g R k1 HFB.out)
      have HZ := Lib.hid (And.intro (H1.out.2.1.trans (k2.below.mono (by have := HG.out; omega))) (Nat.le_trans H1.out.2.2 k2.below.size))
      clear k1 k2
      go_wp2_with (fail)
      refine HY.out.mono ?_
      rintro e w3 ⟨v3, rfl, hR, hb⟩
      have HE := Lib.hid (And.intro (Kd.R_lower hR (by have := HZ.out.2; have := HG.out; omega) : Kd.R (Kd.int .u8) 5 w3 w.heap.size (fun _ => True) v3 R) (HZ.out.1.trans (hb.mono (by have := HZ.out.2; have := HG.out; omega))))
      clear hR hb HY
      go_wp2_with (fail)
      exact bodyPost_ret (v := v3) (by simp [results, Tryz.results98, go_sem]) rfl ⟨v3, rfl, HE.out.1, HE.out.2⟩
    · have hpn : P.varint_Put.f 30 [zig m.n5] = some (put1 (zig m.n5)) ∧ (put1 (zig m.n5)).length ≤ 3 := hpn
      have HR : Hid (R = put1 (zig m.n5)) := HR
      generalize m.n5 = n at *
      have bA : Below w1.heap.size w1 (w1.alloc (.cells #[.int .i64 n] 2)) := (Below.refl _ w1).alloc (Nat.le_refl _) _
      have hnum := penSigned_call (w1.alloc (.cells #[.int .i64 n] 2)) g [] (put1 (zig n)) [n] 30 (H1.out.1.below bA) ⟨w1.heap.size, 0, none⟩ 1 (C_block .i64 [n] (World.alloc_heap_new w1 _) (by simp)) (by simp) (by simp) hpn.1 (by simp; omega)
      have HN := Lib.hid (And.intro hnum (PenK.of_below bA (Nat.le_of_lt hgl)))
      clear hnum bA hpn
      go_wp2_with (fail)
      refine HN.out.1.mono ?_
      rintro e w2 ⟨rfl, k1, k2⟩
      rw [List.nil_append, ← HR.out] at k1
      have k2 := HN.out.2.trans k2
      clear HN
      have HY := Lib.hid (penBytes_call w2 g R k1 HFB.out)
      have HZ := Lib.hid (And.intro (H1.out.2.1.trans (k2.below.mono (by have := HG.out; omega))) (Nat.le_trans H1.out.2.2 k2.below.size))
      clear k1 k2
      go_wp2_with (fail)
      refine HY.out.mono ?_
      rintro e w3 ⟨v3, rfl, hR, hb⟩
      have HE := Lib.hid (And.intro (Kd.R_lower hR (by have := HZ.out.2; have := HG.out; omega) : Kd.R (Kd.int .u8) 5 w3 w.heap.size (fun _ => True) v3 R) (HZ.out.1.trans (hb.mono (by have := HZ.out.2; have := HG.out; omega))))
      clear hR hb HY
      go_wp2_with (fail)
      exact bodyPost_ret (v := v3) (by simp [results, Tryz.results98, go_sem]) rfl ⟨v3, rfl, HE.out.1, HE.out.2⟩
  · have hr : pathW m.path f = 0 := by
      have := HW.out
      rw [c1] at this
      simp only [reduceIte, Int.reduceEq] at this
      exact this
    have hpw := (pathW_some m.path f HM.out.2.path).2 hr
    have HR : Hid (R = put1 (m.path.length : Int) ++ ptsB 0 0 m.path) := Lib.hid (by rw [HX.out, c1]; rfl)
    have HN := Lib.hid (points_call w w1 g H1.out.2.1 (by have := HG.out; omega) [] m.path H1.out.1 Ap cp HM.out.1.path HM.out.1.lp (by have := hpw.1.2; omega) hpw.2 (by rw [List.nil_append, ← HR.out]; exact HFB.out))
    rw [c1] at t1
    clear hr hpw hl1 HX HW c1
    go_wp2_with (fail)
    refine HN.out.mono ?_
    rintro e w2 ⟨⟨ve, rfl⟩, k1, k2⟩
    rw [List.nil_append, ← HR.out] at k1
    clear HN
    have HY := Lib.hid (penBytes_call w2 g R k1 HFB.out)
    have HZ := Lib.hid (And.intro (H1.out.2.1.trans (k2.below.mono (by have := HG.out; omega))) (Nat.le_trans H1.out.2.2 k2.below.size))
    clear k1 k2
    go_wp2_with (fail)
    refine HY.out.mono ?_
    rintro e w3 ⟨v3, rfl, hR, hb⟩
    have HE := Lib.hid (And.intro (Kd.R_lower hR (by have := HZ.out.2; have := HG.out; omega) : Kd.R (Kd.int .u8) 5 w3 w.heap.size (fun _ => True) v3 R) (HZ.out.1.trans (hb.mono (by have := HZ.out.2; have := HG.out; omega))))
    clear hR hb HY
    go_wp2_with (fail)
    exact bodyPost_ret (v := v3) (by simp [results, Tryz.results98, go_sem]) rfl ⟨v3, rfl, HE.out.1, HE.out.2⟩
  · have hr : cellsW m.cells f = 0 := by
      have := HW.out
      rw [c1] at this
      simp only [reduceIte, Int.reduceEq] at this
      exact this
    have hpw := (cellsW_some m.cells f HM.out.2.cells).2 hr
    have HR : Hid (R = put1 (m.cells.length : Int) ++ clsB (-1) m.cells) := Lib.hid (by rw [HX.out, c1]; rfl)
    have HN := Lib.hid (cells_call w w1 g H1.out.2.1 (by have := HG.out; omega) [] m.cells H1.out.1 Ac cc HM.out.1.cells HM.out.1.lc (by have := hpw.1.2; omega) hpw.2 (by rw [List.nil_append, ← HR.out]; exact HFB.out))
    rw [c1] at t1
    clear hr hpw hl1 HX HW c1
    go_wp2_with (fail)
    refine HN.out.mono ?_
    rintro e w2 ⟨⟨ve, rfl⟩, k1, k2⟩
    rw [List.nil_append, ← HR.out] at k1
    clear HN
    have HY := Lib.hid (penBytes_call w2 g R k1 HFB.out)
    have HZ := Lib.hid (And.intro (H1.out.2.1.trans (k2.below.mono (by have := HG.out; omega))) (Nat.le_trans H1.out.2.2 k2.below.size))
    clear k1 k2
    go_wp2_with (fail)
    refine HY.out.mono ?_
    rintro e w3 ⟨v3, rfl, hR, hb⟩
    have HE := Lib.hid (And.intro (Kd.R_lower hR (by have := HZ.out.2; have := HG.out; omega) : Kd.R (Kd.int .u8) 5 w3 w.heap.size (fun _ => True) v3 R) (HZ.out.1.trans (hb.mono (by have := HZ.out.2; have := HG.out; omega))))
    clear hR hb HY
    go_wp2_with (fail)
    exact bodyPost_ret (v := v3) (by simp [results, Tryz.results98, go_sem]) rfl ⟨v3, rfl, HE.out.1, HE.out.2⟩
  · have hr : textW m.text f = 0 := by
      have := HW.out
      rw [c1] at this
      simp only [reduceIte, Int.reduceEq] at this
      exact this
    have hpw := textW_zero hr
    have HR : Hid (R = put1 (m.text.size : Int) ++ bts m.text) := Lib.hid (by rw [HX.out, c1]; rfl)
    have hpn := put1_some (m.text.size : Int) 0 (by omega) (by omega) (by omega)
    obtain ⟨c, wb, hcv, hc, hC, hb⟩ := conv_bytes m.text HM.out.2.text w1
    have hbl := bts_len m.text
    have hnum := penField_call wb g [] (bts m.text) (put1 (m.text.size : Int)) 30 (H1.out.1.below hb) (some ⟨w1.heap.size, 0, none⟩) c (by rw [hbl]; exact hC) (by rw [hbl]; exact hc) (by rw [hbl]; exact hpn.1) (by rw [List.length_nil, Nat.zero_add, ← List.length_append, ← HR.out]; exact HFB.out)
    rw [hbl] at hnum
    have HN := Lib.hid (And.intro hnum (PenK.of_below hb (Nat.le_of_lt hgl)))
    rw [c1] at t1
    clear hr hpw hl1 HX HW c1 hnum hb hC hbl hpn
    go_wp2_with (fail)
    refine HN.out.1.mono ?_
    rintro e w2 ⟨rfl, k1, k2⟩
    rw [List.nil_append, ← HR.out] at k1
    have k2 := HN.out.2.trans k2
    clear HN
    have HY := Lib.hid (penBytes_call w2 g R k1 HFB.out)
    have HZ := Lib.hid (And.intro (H1.out.2.1.trans (k2.below.mono (by have := HG.out; omega))) (Nat.le_trans H1.out.2.2 k2.below.size))
    clear k1 k2
    go_wp2_with (fail)
    refine HY.out.mono ?_
    rintro e w3 ⟨v3, rfl, hR, hb⟩
    have HE := Lib.hid (And.intro (Kd.R_lower hR (by have := HZ.out.2; have := HG.out; omega) : Kd.R (Kd.int .u8) 5 w3 w.heap.size (fun _ => True) v3 R) (HZ.out.1.trans (hb.mono (by have := HZ.out.2; have := HG.out; omega))))
    clear hR hb HY
    go_wp2_with (fail)
    exact bodyPost_ret (v := v3) (by simp [results, Tryz.results98, go_sem]) rfl ⟨v3, rfl, HE.out.1, HE.out.2⟩
  · have hr : textW m.tag f = 0 := by
      have := HW.out
      rw [c1] at this
      simp only [reduceIte, Int.reduceEq] at this
      exact this
    have hpw := textW_zero hr
    have HR : Hid (R = put1 (m.tag.size : Int) ++ bts m.tag) := Lib.hid (by rw [HX.out, c1]; rfl)
    have hpn := put1_some (m.tag.size : Int) 0 (by omega) (by omega) (by omega)
    obtain ⟨c, wb, hcv, hc, hC, hb⟩ := conv_bytes m.tag HM.out.2.tag w1
    have hbl := bts_len m.tag
    have hnum := penField_call wb g [] (bts m.tag) (put1 (m.tag.size : Int)) 30 (H1.out.1.below hb) (some ⟨w1.heap.size, 0, none⟩) c (by rw [hbl]; exact hC) (by rw [hbl]; exact hc) (by rw [hbl]; exact hpn.1) (by rw [List.length_nil, Nat.zero_add, ← List.length_append, ← HR.out]; exact HFB.out)
    rw [hbl] at hnum
    have HN := Lib.hid (And.intro hnum (PenK.of_below hb (Nat.le_of_lt hgl)))
    rw [c1] at t1
    clear hr hpw hl1 HX HW c1 hnum hb hC hbl hpn
    go_wp2_with (fail)
    refine HN.out.1.mono ?_
    rintro e w2 ⟨rfl, k1, k2⟩
    rw [List.nil_append, ← HR.out] at k1
    have k2 := HN.out.2.trans k2
    clear HN
    have HY := Lib.hid (penBytes_call w2 g R k1 HFB.out)
    have HZ := Lib.hid (And.intro (H1.out.2.1.trans (k2.below.mono (by have := HG.out; omega))) (Nat.le_trans H1.out.2.2 k2.below.size))
    clear k1 k2
    go_wp2_with (fail)
    refine HY.out.mono ?_
    rintro e w3 ⟨v3, rfl, hR, hb⟩
    have HE := Lib.hid (And.intro (Kd.R_lower hR (by have := HZ.out.2; have := HG.out; omega) : Kd.R (Kd.int .u8) 5 w3 w.heap.size (fun _ => True) v3 R) (HZ.out.1.trans (hb.mono (by have := HZ.out.2; have := HG.out; omega))))
    clear hR hb HY
    go_wp2_with (fail)
    exact bodyPost_ret (v := v3) (by simp [results, Tryz.results98, go_sem]) rfl ⟨v3, rfl, HE.out.1, HE.out.2⟩
end Go.Proofs.YtgdlpgakhhebeaaGreatDoor
end
section
set_option linter.unusedVariables false
set_option linter.unusedSimpArgs false
namespace Go.Proofs.YtgdlpgakhhebeaaGreatDoor
open Go.RowKit Go.Proofs.YtgdlpgakhhebeaaGreatDoorW.PrintWords Go.Proofs.YtgdlpgakhhebeaaGreatDoorW.PrintMore
attribute [local go_sem] Oper.semAt_some

theorem all_call (k v : Int) (w : World) : Calls Tryz.prog 97 #[.int .i64 k, .int .i64 v] w fun e w' => e = .returned (.func (.func 139) #[] #[.pointer (some ⟨w.heap.size, 0, none⟩), .pointer (some ⟨w.heap.size + 1, 0, none⟩)]) ∧ (w.alloc (.cells #[.int .i64 k] 3)).alloc (.cells #[.int .i64 v] 3) = w' := by
  go_enter Tryz.func97, Tryz.ntmps97
  go_wp2
  go_ret
  exact ⟨rfl, rfl⟩
theorem flat150 {w : World} {x : P.S150} {cs : List Value} (h : P.k150.K w x cs) (w1 : World) (base : Nat) (ok : Nat → Prop) : P.k150.M w1 base ok x cs := by
  obtain rfl := P.k150_open h
  exact P.k150_mkM w1 base ok x
/-- A row whose elements hold no memory: its one block. -/
theorem R_flat {α : Type} {d : Kd α} (hflat : ∀ {w x cs}, d.K w x cs → ∀ w1 base ok, d.M w1 base ok x cs) {e : Nat} {w : World} {base : Nat} {ok : Nat → Prop} {v : Value} {xs : List α} (h : d.R e w base ok v xs) : d.R e w base (fun q => v.ownBlock = some q) v xs := by
  obtain ⟨h0, inner, ho, hr⟩ := h
  exact ⟨fun _ hk => hk, inner, ho, hr.imp_ (fun p c hp => hflat (d.K_of_M hp) _ _ _)⟩
theorem filter_at {α : Type} (p : α → Bool) (l : List α) (i : Nat) (h : i < l.length) : (l.filter p = (l.take i).filter p ++ (l.drop i).filter p) ∧ (l.drop i).filter p = (if p l[i] then l[i] :: (l.drop (i + 1)).filter p else (l.drop (i + 1)).filter p) ∧ (l.take (i + 1)).filter p = (l.take i).filter p ++ (if p l[i] then [l[i]] else []) := by
  refine ⟨by rw [← List.filter_append, List.take_append_drop], by rw [List.drop_eq_getElem_cons h, List.filter_cons], ?_⟩
  rw [List.take_succ_eq_append_getElem h, List.filter_append]
  by_cases hp : p l[i] <;> simp [hp]
def FalQ (L : List P.S150) (k : Nat) (vs : Array Value) (T : Nat → Prop) (B : Nat) (W : World) : Prop := ∃ f, L[k]? = some f ∧ vs = #[fV f]
/-- Between two rounds. -/
def FalR (Bk Bv : Nat) (L : List P.S150) (v : Int) (A : Option Addr) (c n : Nat) (J : Nat → (Nat → Prop) → World → Prop) (W : World) (t : Value) (wr : World) : Prop :=
  ∃ (i m : Nat) (T : Nat → Prop) (W0 : World), t = .int .i64 (i : Int) ∧ i ≤ n ∧ Hid (m = ((L.take i).filter fun f => decide (f.f5 ≤ v)).length ∧ J m T W0 ∧ Stab T W0.heap.size W0 wr ∧ (∀ b, (Value.slice A n c).ownBlock = some b → T b ∨ W0.heap.size ≤ b) ∧
    Kd.R P.k150 150 wr W.heap.size (fun q => (Value.slice A n c).ownBlock = some q) (.slice A n c) L ∧ Keep (fun b => b = Bk ∨ b = Bv) W wr ∧ ∀ b, T b → (Value.slice A n c).ownBlock = some b)
set_option maxRecDepth 100000 in
set_option maxHeartbeats 4000000 in
theorem all1 (w : World) (Bk Bv : Nat) (k v : Int) (hK : Boxed w Bk 3 (.int .i64 k)) (hV : Boxed w Bv 3 (.int .i64 v)) :
    Iter Tryz.prog 139 #[.pointer (some ⟨Bk, 0, none⟩), .pointer (some ⟨Bv, 0, none⟩)] (vfl k v).length (fun _ => True) (fun b => b = Bk ∨ b = Bv) (fun _ => False) (FalQ (vfl k v)) (fun _ _ _ _ => True) w := by
  intro l' J Jx W hW hY h0
  have bK : Boxed W Bk 3 (.int .i64 k) := hW.same _ _ hK (.inl (.inl rfl))
  have bV : Boxed W Bv 3 (.int .i64 v) := hW.same _ _ hV (.inl (.inr rfl))
  have cK := bK.cell
  have HY := Lib.hid hY
  have HJ := Lib.hid (And.intro h0 (And.intro bK bV))
  obtain ⟨N, hN⟩ : ∃ N, (vfl k v).length = N := ⟨_, rfl⟩
  have HN := Lib.hid hN
  rw [hN] at HY ⊢
  clear hY h0 hK hV bK bV hN
  show Calls Tryz.prog 139 #[.func (.yield l') #[] #[], .pointer (some ⟨Bk, 0, none⟩), .pointer (some ⟨Bv, 0, none⟩)] W _
  go_enter Tryz.func139, Tryz.ntmps139
  go_wp2_with (fail)
  go_step3
  go_wp2_with (fail)
  go_step3
  go_wp2_with (fail)
  refine (P.field_Of.calls k (flds k) _ (flds_some _)).mono ?_
  rintro e w1 ⟨vr, rfl, hR, hb⟩
  obtain ⟨A, c, e0, hc, hC⟩ := Kd.R_reads hR
  subst e0
  have HVF : Hid (vfl k v = (flds k).filter fun f => decide (f.f5 ≤ v)) := Lib.hid rfl
  have hLl : (flds k).length ≤ 6 := by
    rcases flds_kind k with (e | e | e | e | e) | e <;> rw [e] <;> decide
  have H1 := Lib.hid (And.intro (R_flat (fun h w1 base ok => flat150 h w1 base ok) hR) (And.intro hb (fun b hb' => Kd.R_base hR b hb')))
  generalize flds k = L at *
  obtain ⟨n, hn⟩ : ∃ n, L.length = n := ⟨_, rfl⟩
  have HL := Lib.hid hn
  rw [hn] at H1 hc hLl ⊢
  clear hR hb hC hn
  go_wp2_with (fail)
  go_loopw [5, 9] (fun _ t wr => FalR Bk Bv L v A c n J W t wr) (fun _ t _ => n - (intV t).toNat)
  case atStart => exact ⟨0, 0, (fun _ => False), W, rfl, Nat.zero_le _, Lib.hid ⟨rfl, HJ.out.1, Stab.of_below H1.out.2.1, fun b hb => .inr (H1.out.2.2 b hb), H1.out.1, Keep.of_below H1.out.2.1, fun _ h => h.elim⟩⟩
  case round =>
    obtain ⟨i, m, T, W0, rfl, hi, HI⟩ := hrel
    obtain ⟨i1, i2, i3, i4, i5, i6, i7⟩ := HI.out
    have bVr : Boxed wr Bv 3 (.int .i64 v) := i6.same _ _ HJ.out.2.2 (.inr rfl)
    by_cases hlt : i < n
    · have hil : i < L.length := by have := HL.out; omega
      obtain ⟨A', c', e0, hc', hC⟩ := Kd.R_reads i5
      rw [HL.out] at e0 hC
      obtain ⟨rfl, -, rfl⟩ : A = A' ∧ n = n ∧ c = c' := by simpa using e0
      obtain ⟨ad, rfl, g0, g1, g2, g3, g4, g5, g6⟩ := P.at_T150 hC (i : Int) (by omega) (by omega)
      rw [Int.toNat_natCast] at g0 g1 g2 g3 g4 g5 g6
      have hrd : P.rd_T150 L (i : Int) = L[i] := by simp [P.rd_T150, List.getD_eq_getElem?_getD, List.getElem?_eq_getElem hil]
      obtain ⟨fa1, fa2, fa3⟩ := filter_at (fun f => decide (f.f5 ≤ v)) L i hil
      rw [← hrd] at fa2 fa3
      generalize P.rd_T150 L (i : Int) = f at *
      have bF : Below wr.heap.size wr (wr.alloc (.cells (fC f) 150)) := (Below.refl _ wr).alloc (Nat.le_refl _) _
      have cV : (wr.alloc (.cells (fC f) 150)).cell? ⟨Bv, 0, none⟩ = some (.int .i64 v) := cell_al bVr.cell _
      have HK := Lib.hid (And.intro i1 (And.intro i2 (And.intro i3 (And.intro i4 (And.intro i5 (And.intro i6 (And.intro i7 (And.intro fa1 (And.intro fa2 (And.intro fa3 bF))))))))))
      unfold fC at *
      clear i1 i2 i3 i4 i5 i6 i7 fa1 fa2 fa3 bF HI bVr hC hc' e0 hrd
      by_cases hp : f.f5 ≤ v
      · have hp2 : (v < f.f5) = False := eq_false (by omega)
        go_upto_region 4 with (fail)
        obtain ⟨i1, i2, i3, i4, i5, i6, i7, fa1, fa2, fa3, bF⟩ := HK.out
        rw [if_pos (by simpa using hp)] at fa2 fa3
        have hseg : (vfl k v)[m]? = some f := by
          rw [HVF.out, fa1, fa2, i1, List.getElem?_append_right (Nat.le_refl _), Nat.sub_self]; rfl
        have hmN : m < N := by rw [← HN.out]; exact (List.getElem?_eq_some_iff.1 hseg).1
        have hobl : ∀ b, (Value.slice (some ad) n c).ownBlock = some b → b < wr.heap.size := fun b hb => Kd.R_lt i5 b hb
        obtain ⟨fn, tmps, assign, body, hy, hRd⟩ := HY.out m T (fun b => (Value.slice (some ad) n c).ownBlock = some b) W0 (wr.alloc (.cells (fC f) 150)) #[fV f] hmN i2 trivial i4 (fun b hb => Nat.lt_of_lt_of_le (hobl b hb) bF.size) (i3.trans (Stab.of_below (T := fun _ => False) bF) (fun _ h => h.elim)) ⟨f, hseg, rfl⟩
        unfold fV fC at hy
        have HR1 := Lib.hid (And.intro hRd (And.intro hmN fa3))
        unfold fC at HR1
        clear hRd i1 i2 i3 i4 i5 i6 i7 fa1 fa2 fa3 bF hseg hmN hobl
        refine (wpIn_wide (n := 5)).1 ?_
        gi_wp2_with (fail)
        refine (HR1.out.1 _).mono ?_
        rintro e W3 (⟨rfl, hJ3, hk3⟩ | ⟨rfl, hJ3, hk3⟩)
        · obtain ⟨i1, i2, i3, i4, i5, i6, i7, fa1, fa2, fa3, bF⟩ := HK.out
          have j5 : Kd.R P.k150 150 W3 W.heap.size (fun q => (Value.slice (some ad) n c).ownBlock = some q) (.slice (some ad) n c) L := Kd.R_move (Kd.R_below i5 bF) (fun q hq => by
            have hlt := Kd.R_lt (Kd.R_below i5 bF) q hq
            rw [Array.getElem?_eq_getElem hlt]; exact hk3.same _ _ (Array.getElem?_eq_getElem hlt) (.inr hq))
          have j6 : Keep (fun b => b = Bk ∨ b = Bv) W W3 := (i6.trans (Keep.of_below bF)).trans (hk3.mono (fun b h => .inl h))
          have HF := Lib.hid (show FalR Bk Bv L v (some ad) c n J W (.int .i64 ((i : Int) + 1)) W3 from ⟨i + 1, m + 1, (fun b => (Value.slice (some ad) n c).ownBlock = some b), W3, by simp, hlt, Lib.hid ⟨by rw [HR1.out.2.2, List.length_append, i1]; rfl, hJ3, Stab.refl _ _ _, fun b hb => .inl hb, j5, j6, fun _ h => h⟩⟩)
          clear i1 i2 i3 i4 i5 i6 i7 fa1 fa2 fa3 bF j5 j6 hJ3 hk3 hy HR1
          gi_wp2_with (fail)
          go_wp2_with (fail)
          exact ⟨HF.out, by simp [intV]; omega⟩
        · have HF := Lib.hid (And.intro hJ3 HR1.out.2.1)
          clear hy HR1 hJ3 hk3
          gi_wp2_with (fail)
          go_wp2_with (fail)
          rw [Exit.noGoto_normal]
          refine bodyPost_end (results_none rfl _ _ _) rfl ?_
          exact ⟨⟨_, rfl⟩, _, _, W3, m, trivial, fun _ h => .inl h, Stab.refl _ _ _, .inr ⟨HF.out.2, HF.out.1, trivial⟩⟩
      · have hp2 : (v < f.f5) = True := eq_true (by omega)
        go_wp2_with (fail)
        obtain ⟨i1, i2, i3, i4, i5, i6, i7, fa1, fa2, fa3, bF⟩ := HK.out
        rw [if_neg (by simpa using hp), List.append_nil] at fa3
        refine ⟨⟨i + 1, m, T, W0, by simp, hlt, Lib.hid ⟨by rw [fa3]; exact i1, i2, i3.trans (Stab.of_below (T := fun _ => False) bF) (fun _ h => h.elim), i4, Kd.R_below i5 bF, i6.trans (Keep.of_below bF), i7⟩⟩, by simp [intV]; omega⟩
    · obtain rfl : i = n := by omega
      rw [List.take_of_length_le (by have := HL.out; omega)] at i1
      have hmN : m = N := by rw [i1, ← HN.out, HVF.out]
      have HF := Lib.hid (And.intro hmN (And.intro i2 i3))
      clear i1 i2 i3 i4 i5 i6 i7 HI bVr hmN
      go_wp2_with (fail)
      rw [Exit.noGoto_normal]
      refine bodyPost_end (results_none rfl _ _ _) rfl ?_
      exact ⟨⟨_, rfl⟩, T, T, W0, m, trivial, fun _ h => .inl h, HF.out.2.2, .inl ⟨HF.out.1, HF.out.2.1, trivial⟩⟩
end Go.Proofs.YtgdlpgakhhebeaaGreatDoor
end
