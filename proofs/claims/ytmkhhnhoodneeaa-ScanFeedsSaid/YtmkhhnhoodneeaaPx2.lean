-- Printed by a program of this session, over contracts of its own; Lean checks it.
import Derived.Test.YtmkhhnhoodneeaaPx0
import Derived.Test.YtmkhhnhoodneeaaPx1
namespace Go.Proofs.Ytmkhhnhoodneeaa.P
open Go.RowKit Go.Proofs.YtmkhhnhoodneeaaW.PrintWords Go.Proofs.YtmkhhnhoodneeaaW.PrintLast Go.Proofs.YtmkhhnhoodneeaaW.PrintMore
attribute [local go_sem] max2_int min2_int max_two min_two max_three min_three max_four min_four   -- for this text's walks alone
set_option linter.unnecessarySimpa false
set_option linter.unusedVariables false
set_option linter.unusedSimpArgs false

/-! ### cuneiformref09_All: function 18 -/
def cuneiformref09_All.l0 : Nat → List (List Int) → List Int → List Int → List (S61) → Int → Option ((List (S61)) × List Int)
  | 0, _, _, _, _, _ => none
  | k + 1, x4, x5, x6, x7, x8 => if x8 < (x4.length : Int) then (if 0 ≤ x8 then (if x8 < (x5.length : Int) then (if ((rd_L1 x4 x8).length : Int) > 255 then (if x7.length < 2932031007402 then (cuneiformref09_All.l0 k x4 x5 x6 (x7 ++ [(⟨([] : List Int), true, ((rd_L1 x4 x8).length : Int), IntKind.u64.wrap (rd x5 x8)⟩ : S61)]) (wrap64 (x8 + 1))) else (none)) else (if x7.length < 2932031007402 then (cuneiformref09_All.l0 k x4 x5 x6 (x7 ++ [(⟨rd_L1 x4 x8, false, ((rd_L1 x4 x8).length : Int), IntKind.u64.wrap (rd x5 x8)⟩ : S61)]) (wrap64 (x8 + 1))) else (none))) else (none)) else (none)) else (some (x7, x6))
def cuneiformref09_All.f (k : Nat) (l0 : List Int) : Option ((List (S61)) × List Int) := (cuneiformref06_Split.f k l0).bind fun bt119 => (cuneiformref09_All.l0 k bt119.1 bt119.2.1 bt119.2.2 ([] : List (S61)) 0)
theorem cuneiformref09_All.mono_l : ∀ k, (∀ y0 y1 y2 y3 y4, LeO (cuneiformref09_All.l0 k y0 y1 y2 y3 y4) (cuneiformref09_All.l0 (k + 1) y0 y1 y2 y3 y4))
  | 0 => fun _ _ _ _ _ r h => by simp [cuneiformref09_All.l0] at h
  | k + 1 => by
    have ih0 := cuneiformref09_All.mono_l k
    · intro y0 y1 y2 y3 y4
      unfold cuneiformref09_All.l0
      repeat' first
      | (with_reducible exact ih0 _ _ _ _ _)
      | (with_reducible exact cuneiformref06_Split.mono _ _)
      | (with_reducible exact LeO.refl _)
      | (with_reducible exact LeO.none _)
      | (with_reducible refine LeO.ite ?_ ?_)
      | (with_reducible refine LeO.bind ?_ (fun _ => ?_))
      | exact ih0 _ _ _ _ _
      | exact cuneiformref06_Split.mono _ _
      | exact LeO.none _
      | refine LeO.ite ?_ ?_
      | refine LeO.bind ?_ (fun _ => ?_)
theorem cuneiformref09_All.mono : ∀ a0 k, LeO (cuneiformref09_All.f k a0) (cuneiformref09_All.f (k + 1) a0) := by
  intro a0 k
  have ih0 := cuneiformref09_All.mono_l k
  unfold cuneiformref09_All.f
  repeat' first
      | (with_reducible exact ih0 _ _ _ _ _)
      | (with_reducible exact cuneiformref06_Split.mono _ _)
      | (with_reducible exact LeO.refl _)
      | (with_reducible exact LeO.none _)
      | (with_reducible refine LeO.ite ?_ ?_)
      | (with_reducible refine LeO.bind ?_ (fun _ => ?_))
      | exact ih0 _ _ _ _ _
      | exact cuneiformref06_Split.mono _ _
      | exact LeO.none _
      | refine LeO.ite ?_ ?_
      | refine LeO.bind ?_ (fun _ => ?_)
def cuneiformref09_All.T6 : Bool × List (List Nat × List Nat) := (true, [([], []), ([], []), ([0, 1], [0, 1]), ([2], [2]), ([], []), ([], []), ([4, 5], [4, 5]), ([6], [6]), ([7], [7]), ([], []), ([], []), ([9, 10], [9, 10]), ([11], [11]), ([12], [12]), ([3, 8, 13], [3, 8, 13]), ([], []), ([15, 14, 0, 1, 2, 3, 4, 5, 6, 7, 8, 9, 10, 11, 12, 13, 14, 15], [14, 15])])
def cuneiformref09_All.B6 : List Nat := [0, 0, 3, 7, 0, 0, 48, 112, 240, 0, 0, 1536, 3584, 7680, 16383, 0, 65535]
theorem cuneiformref09_All.tab6 : rtab .any (opsOf Try.f18 6) = cuneiformref09_All.T6 := by kernel_rfl
theorem cuneiformref09_All.bits6 : waitsOk cuneiformref09_All.T6.2 cuneiformref09_All.B6 = true := by kernel_rfl
set_option maxHeartbeats 8000000 in
set_option maxRecDepth 100000 in
theorem cuneiformref09_All.calls (k : Nat) (A0 : Option Addr) (c0 : Nat) (l0 : List Int) (r1 : List (S61)) (r2 : List Int) (w : World) (hr0 : Kd.C (Kd.int .u8) w A0 l0.length l0) (hc0 : l0.length ≤ c0) (h : cuneiformref09_All.f k l0 = some (r1, r2)) :
    Calls Try.prog 18 #[.slice A0 l0.length c0] w fun e w' => ∃ v0_ v1_ : Value, e = .returned (.tuple #[v0_, v1_]) ∧ Kd.N k61 61 w' w.heap.size (fun k_ => (w.heap.size ≤ k_) ∧ some k_ ≠ (v1_ : Value).ownBlock) v0_ r1 ∧ Kd.R (Kd.int .u8) 5 w' w.heap.size (fun k_ => (w.heap.size ≤ k_)) v1_ r2 ∧ Below w.heap.size w w' := by
  have hu61 := Try.underlying61
  have HR0 := Aside0.mk hr0
  have HC0 := Aside0.mk hc0
  clear hr0 hc0
  have HB := Aside0.mk (Below.refl w.heap.size w)
  have H : ((cuneiformref06_Split.f k l0).bind fun bt119 => (cuneiformref09_All.l0 k bt119.1 bt119.2.1 bt119.2.2 ([] : List (S61)) 0)) = some (r1, r2) := h
  clear h
  replace H := Option.bind_eq_some_iff.mp H
  obtain ⟨⟨t119, t120, t121⟩, A20, H⟩ := H
  replace H : (cuneiformref09_All.l0 k t119 t120 t121 ([] : List (S61)) 0) = some (r1, r2) := H
  have A2 := Aside0.mk A20
  clear A20
  have H' := Aside0.mk H
  clear H
  go_enter Try.func18, Try.ntmps18
  go_wp2_with (first | ((with_reducible refine gate_callee (f := 28) rfl ?_); refine goesL_ (some 12) rfl rfl Try.func28 (by kernel_rfl) rfl #[.slice A0 l0.length c0] rfl (by (try simp only [List.map_toArray, List.map_cons, List.map_nil]); first | done | rfl | (simp only [List.length_drop, List.length_take]; rfl)) ?_; (with_reducible refine (cuneiformref06_Split.calls k _ _ l0 t119 t120 t121 _ ?side1 ?side2 A2.out).mono ?_); (case side1 => repeat (first | exact HR0.out | (with_reducible refine Kd.C_alloc ?_ _) | (with_reducible refine Kd.C_drewN ?_ _) | (with_reducible refine Kd.C_drew ?_))); (case side2 => exact HC0.out); rintro e w3 ⟨v122, v124, v126, rfl, ho0, ho1, ho2, hb⟩; refine ⟨_, rfl, ?_⟩; have n0_ := Aside0.mk (Kd.N_lower (Kd.N_mono (ok' := fun k_ => (w.heap.size ≤ k_) ∧ some k_ ≠ (v124 : Value).ownBlock ∧ some k_ ≠ (v126 : Value).ownBlock) (Kd.S_N (Kd.S_bound (Kd.S_apart' ho0 (Kd.R_typed ho1) (by decide)))) (fun k_ hk_ => ⟨(Nat.le_trans (below_size (by repeat (first | (with_reducible first | exact HB.out | apply below_alloc | apply pw_below_drewN | apply below_drew1) | exact HB.out))) hk_.2.1), hk_.1.2, hk_.1.1⟩)) (below_size (by repeat (first | (with_reducible first | exact HB.out | apply below_alloc | apply pw_below_drewN | apply below_drew1) | exact HB.out)))); have n1_ := Aside0.mk (Kd.R_lower (Kd.R_newM (M := fun k_ => (w.heap.size ≤ k_)) ho1 (below_size (by repeat (first | (with_reducible first | exact HB.out | apply below_alloc | apply pw_below_drewN | apply below_drew1) | exact HB.out))) (fun k_ h_ => h_)) (below_size (by repeat (first | (with_reducible first | exact HB.out | apply below_alloc | apply pw_below_drewN | apply below_drew1) | exact HB.out)))); have n2_ := Aside0.mk (Kd.R_lower (Kd.R_newM (M := fun k_ => (w.heap.size ≤ k_)) ho2 (below_size (by repeat (first | (with_reducible first | exact HB.out | apply below_alloc | apply pw_below_drewN | apply below_drew1) | exact HB.out))) (fun k_ h_ => h_)) (below_size (by repeat (first | (with_reducible first | exact HB.out | apply below_alloc | apply pw_below_drewN | apply below_drew1) | exact HB.out)))); have n3_ := Aside0.mk (below_step (by repeat (first | (with_reducible first | exact HB.out | apply below_alloc | apply pw_below_drewN | apply below_drew1) | exact HB.out)) hb); clear HB; have HO123 := n0_; have HO125 := n1_; have HO127 := n2_; have HB := n3_; clear n0_ n1_ n2_ n3_; (try clear hb); (try clear hb2); (try clear hk); (try clear hi); (try clear ho0); (try clear ho1); (try clear ho2)))
  go_loopg [7, 8] k (fun kq v7 v8 w' => ∃ (x7_1 : List (S61)) (x8_1 : Int), v8 = .int .i64 x8_1 ∧ Aside0 (cuneiformref09_All.l0 kq t119 t120 t121 x7_1 x8_1 = some (r1, r2)) ∧ Aside0 (kq ≤ k) ∧ Aside0 (Kd.N (Kd.slice 5 (Kd.int .u8)) 22 w' w.heap.size (fun k_ => (w.heap.size ≤ k_) ∧ some k_ ≠ (v124 : Value).ownBlock ∧ some k_ ≠ (v126 : Value).ownBlock ∧ some k_ ≠ (v7 : Value).ownBlock) v122 t119) ∧ Aside0 (Kd.R (Kd.int .i64) 3 w' w.heap.size (fun k_ => (w.heap.size ≤ k_)) v124 t120) ∧ Aside0 (Kd.R (Kd.int .u8) 5 w' w.heap.size (fun k_ => (w.heap.size ≤ k_)) v126 t121) ∧ Aside0 (Kd.N k61 61 w' w.heap.size (fun k_ => (w.heap.size ≤ k_) ∧ some k_ ≠ (v122 : Value).ownBlock ∧ some k_ ≠ (v124 : Value).ownBlock ∧ some k_ ≠ (v126 : Value).ownBlock) v7 x7_1) ∧ Aside0 (Below w.heap.size w w'))
  case atStart => exact ⟨(([] : List (S61))), (0), (by first | rfl | (simp; done) | (simp [*]; done)), H', ⟨Nat.le_refl _⟩, ⟨by (with_reducible repeat (first | apply Kd.N_alloc | apply Kd.N_drewN | apply Kd.N_drew)); exact Kd.N_mono HO123.out (fun _ hk => ⟨hk.1, ⟨hk.2.1, ⟨hk.2.2, (by simp [Value.ownBlock])⟩⟩⟩)⟩, ⟨by (with_reducible repeat (first | apply Kd.R_alloc | apply Kd.R_drewN | apply Kd.R_drew)); exact Kd.R_mono HO125.out (fun _ hk => hk.1)⟩, ⟨by (with_reducible repeat (first | apply Kd.R_alloc | apply Kd.R_drewN | apply Kd.R_drew)); exact Kd.R_mono HO127.out (fun _ hk => hk.1)⟩, ⟨by first | exact Kd.S_nil _ _ _ _ _ | exact Kd.N_nil _ _ _ _ _ | exact Kd.V_nil _ _ _ _ _ | exact Kd.Q_nil _ _ _ _ _ | exact Kd.R_nil _ _ _ _ _⟩, ⟨by repeat (first | (with_reducible first | exact HB.out | apply below_alloc | apply pw_below_drewN | apply below_drew1) | exact HB.out)⟩⟩
  case round =>
    clear H'
    try clear c1
    try clear c2
    try clear p2
    obtain ⟨x7_1, x8_1, rfl, HA, HK1, HO_4, HO_5, HO_6, HO_7, HB⟩ := hrel
    cases gk with
    | zero => exact absurd HA.out (by simp [cuneiformref09_All.l0])
    | succ k1 =>
      have H := HA.out
      clear HA
      simp only [cuneiformref09_All.l0] at H
      by_cases c4 : x8_1 < (t119.length : Int)
      · rw [if_pos c4] at H
        have c4b0 : decide (x8_1 < (t119.length : Int)) = true := decide_eq_true c4
        clear c4
        by_cases c5 : 0 ≤ x8_1
        · rw [if_pos c5] at H
          have c5b0 : decide (0 ≤ x8_1) = true := decide_eq_true c5
          clear c5
          by_cases c6 : x8_1 < (t120.length : Int)
          · rw [if_pos c6] at H
            have c6b0 : decide (x8_1 < (t120.length : Int)) = true := decide_eq_true c6
            clear c6
            by_cases c7 : ((rd_L1 t119 x8_1).length : Int) > 255
            · rw [if_pos c7] at H
              have c7b0 : decide (255 < ((rd_L1 t119 x8_1).length : Int)) = true := decide_eq_true c7
              have c7b1 : decide (255 < (rd_L1 t119 x8_1).length) = true := decide_eq_true (by omega)
              clear c7
              by_cases c8 : x7_1.length < 2932031007402
              · rw [if_pos c8] at H
                have LMc8 := Aside0.mk c8
                clear c8
                obtain ⟨y133, hy133⟩ : ∃ y_ : List (S61), y_ = (x7_1 ++ [(⟨([] : List Int), true, ((rd_L1 t119 x8_1).length : Int), IntKind.u64.wrap (rd t120 x8_1)⟩ : S61)]) := ⟨_, rfl⟩
                replace H : (cuneiformref09_All.l0 k1 t119 t120 t121 y133 (wrap64 (x8_1 + 1))) = some (r1, r2) := by first | (rw [hy133]; with_reducible exact H) | (have H2_ := (Option.bind_some _ _).symm.trans H; rw [hy133]; with_reducible exact H2_) | (have H2_ := (Option.bind_some _ _).symm.trans H; with_reducible exact H2_) | with_reducible exact H | (rw [hy133]; exact H) | exact H
                have Ny133 := Aside0.mk hy133
                clear hy133
                have H' := Aside0.mk H
                clear H
                obtain ⟨Ao9, co9, eo9⟩ := Kd.N_slice HO_4.out
                subst eo9
                try go_wp2
                have n0_ := Aside0.mk (Kd.N_drew HO_4.out)
                have n1_ := Aside0.mk (Kd.R_drew HO_5.out)
                have n2_ := Aside0.mk (Kd.R_drew HO_6.out)
                have n3_ := Aside0.mk (Kd.N_drew HO_7.out)
                have n4_ := Aside0.mk (below_drew1 HB.out)
                clear HO_4
                clear HO_5
                clear HO_6
                clear HO_7
                clear HB
                have HO_4 := n0_
                have HO_5 := n1_
                have HO_6 := n2_
                have HO_7 := n3_
                have HB := n4_
                clear n0_ n1_ n2_ n3_ n4_
                have p128 : 0 ≤ (x8_1 : Int) := of_decide_eq_true (by first | (with_reducible assumption) | assumption)
                have q128 : x8_1 < (t119.length : Int) := of_decide_eq_true (by first | (with_reducible assumption) | assumption)
                obtain ⟨ad128, A128_0, c128_0, e128, hx128_0, hl128_0, hi128_0⟩ := at_L1 (Kd.N_reads' HO_4.out).2.2 x8_1 p128 q128
                cases e128
                obtain ⟨ce128, hce128, hMe128, hcc128⟩ := Kd.N_get HO_4.out [] x8_1 p128 (by first | exact q128 | exact of_decide_eq_true (by first | (with_reducible assumption) | assumption) | (have e_ := (Kd.N_reads' HO_4.out).1; omega))
                obtain ⟨ua128_0, uc128_0, rfl, ul128_0, ge128_0⟩ := Kd.FK_slice_open hMe128
                have hv128_0 := hcc128 0 _ rfl
                rw [Nat.add_zero, show ((Kd.slice 5 (Kd.int .u8))).sz = 1 from rfl, Nat.mul_one] at hv128_0
                replace hv128_0 := Option.some.inj (hv128_0.symm.trans hx128_0)
                injection hv128_0 with hva_ hvn_ hvc_
                rw [hva_] at ge128_0
                rw [hvc_] at ul128_0
                have HL128_0 := Aside0.mk (show Kd.V (Kd.int .u8) 5 _ w.heap.size _ _ (rd_L1 t119 x8_1) from Kd.V_mk ul128_0 ge128_0)
                clear hva_ hvn_ hvc_ ge128_0 ul128_0
                clear hcc128 hce128
                have HR128_0 := Aside0.mk hi128_0
                have HC128_0 := Aside0.mk hl128_0
                clear hi128_0 hl128_0
                replace p128 := eq_true p128
                replace q128 := eq_true q128
                have p129 : 0 ≤ (x8_1 : Int) := of_decide_eq_true (by first | (with_reducible assumption) | assumption)
                have q129 : x8_1 < (t119.length : Int) := of_decide_eq_true (by first | (with_reducible assumption) | assumption)
                obtain ⟨ad129, A129_0, c129_0, e129, hx129_0, hl129_0, hi129_0⟩ := at_L1 (Kd.N_reads' HO_4.out).2.2 x8_1 p129 q129
                obtain rfl : ad128 = ad129 := (by injection e129)
                obtain ⟨ce129, hce129, hMe129, hcc129⟩ := Kd.N_get HO_4.out [] x8_1 p129 (by first | exact q129 | exact of_decide_eq_true (by first | (with_reducible assumption) | assumption) | (have e_ := (Kd.N_reads' HO_4.out).1; omega))
                obtain ⟨ua129_0, uc129_0, rfl, ul129_0, ge129_0⟩ := Kd.FK_slice_open hMe129
                have hv129_0 := hcc129 0 _ rfl
                rw [Nat.add_zero, show ((Kd.slice 5 (Kd.int .u8))).sz = 1 from rfl, Nat.mul_one] at hv129_0
                replace hv129_0 := Option.some.inj (hv129_0.symm.trans hx129_0)
                injection hv129_0 with hva_ hvn_ hvc_
                rw [hva_] at ge129_0
                rw [hvc_] at ul129_0
                have HL129_0 := Aside0.mk (show Kd.V (Kd.int .u8) 5 _ w.heap.size _ _ (rd_L1 t119 x8_1) from Kd.V_mk ul129_0 ge129_0)
                clear hva_ hvn_ hvc_ ge129_0 ul129_0
                clear hcc129 hce129
                have HR129_0 := Aside0.mk hi129_0
                have HC129_0 := Aside0.mk hl129_0
                clear hi129_0 hl129_0
                replace p129 := eq_true p129
                replace q129 := eq_true q129
                have ea_ := Option.some.inj (hx128_0.symm.trans hx129_0)
                injection ea_ with ea_ en_ ec_
                subst ea_
                subst ec_
                clear en_
                obtain ⟨Ao11, co11, eo11⟩ := Kd.R_slice HO_5.out
                (first | subst eo11 | (injection eo11 with f1_ f2_ f3_; have f4_ := f1_.symm; have f5_ := f3_.symm; clear f1_ f2_ f3_; subst f4_; subst f5_))
                have p130 : 0 ≤ (x8_1 : Int) := of_decide_eq_true (by first | (with_reducible assumption) | assumption)
                have q130 : x8_1 < (t120.length : Int) := of_decide_eq_true (by first | (with_reducible assumption) | assumption)
                obtain ⟨ad130, e130, hx130_0⟩ := Kd.at_int (Kd.R_reads' HO_5.out).2.2 x8_1 p130 q130
                cases e130
                replace p130 := eq_true p130
                replace q130 := eq_true q130
                refine start_ (n := 17) (S := fun w' => w'.cell? (ad128.add (x8_1).toNat) = some (.slice A128_0 (rd_L1 t119 x8_1).length c128_0) ∧ w'.cell? (ad128.add (x8_1).toNat) = some (.slice A128_0 (rd_L1 t119 x8_1).length c128_0) ∧ w'.cell? (ad130.add (x8_1).toNat) = some (.int .i64 (rd t120 x8_1))) (ds := []) #[false, false, false, false, false, false, false, false, false, false, false, false, false, false, false, false, false] (by kernel_rfl) rfl rfl ⟨hx128_0, hx129_0, hx130_0⟩ (fun hHeld => ?_); refine with_tabW cuneiformref09_All.tab6 cuneiformref09_All.bits6 (fun HT_ HW_ => ?_)
                generalize wr.drew = w10 at HO_4 HO_5 HO_6 HO_7 HB HL128_0 HL129_0 HR128_0 HR129_0 hx128_0 hx129_0 hx130_0 hHeld ⊢
                refine pure_ (i := 0) (N := some 22) (v := ?_) (a' := ?_) #[true, false, false, false, false, false, false, false, false, false, false, false, false, false, false, false, false] rfl rfl (any_of HT_.out (by kernel_rfl)) (fun _ _ _ h => h) (Or.inl ⟨by rfl, ?_⟩) ?_ ?_
                rotate_left
                · intro w'
                  go_simp
                  with_reducible rfl
                rotate_left
                · simp only [Act.put, List.setIfInBounds_toArray, List.set_cons_zero, List.set_cons_succ, i64_w, i32_w]
                  rfl
                refine pure_ (i := 1) (N := some 23) (v := ?_) (a' := ?_) #[true, true, false, false, false, false, false, false, false, false, false, false, false, false, false, false, false] rfl rfl (any_of HT_.out (by kernel_rfl)) (fun _ _ _ h => h) (Or.inl ⟨by rfl, ?_⟩) ?_ ?_
                rotate_left
                · intro w'
                  go_simp
                  with_reducible rfl
                rotate_left
                · simp only [Act.put, List.setIfInBounds_toArray, List.set_cons_zero, List.set_cons_succ, i64_w, i32_w]
                  rfl
                refine pure_ (i := 2) (N := some 24) (v := ?_) (a' := ?_) #[true, true, true, false, false, false, false, false, false, false, false, false, false, false, false, false, false] rfl rfl (any_of HT_.out (by kernel_rfl)) (fun _ _ _ h => h) (Or.inl ⟨by rfl, ?_⟩) ?_ ?_
                rotate_left
                · intro w'
                  go_simp
                  with_reducible rfl
                rotate_left
                · simp only [Act.put, List.setIfInBounds_toArray, List.set_cons_zero, List.set_cons_succ, i64_w, i32_w]
                  rfl
                refine pure_ (i := 4) (N := some 26) (v := ?_) (a' := ?_) #[true, true, true, false, true, false, false, false, false, false, false, false, false, false, false, false, false] rfl rfl (any_of HT_.out (by kernel_rfl)) (fun _ _ _ h => h) (Or.inl ⟨by rfl, ?_⟩) ?_ ?_
                rotate_left
                · intro w'
                  go_simp
                  with_reducible rfl
                rotate_left
                · simp only [Act.put, List.setIfInBounds_toArray, List.set_cons_zero, List.set_cons_succ, i64_w, i32_w]
                  rfl
                refine pure_ (i := 5) (N := some 27) (v := ?_) (a' := ?_) #[true, true, true, false, true, true, false, false, false, false, false, false, false, false, false, false, false] rfl rfl (any_of HT_.out (by kernel_rfl)) (fun _ _ _ h => h) (Or.inl ⟨by rfl, ?_⟩) ?_ ?_
                rotate_left
                · intro w'
                  go_simp
                  with_reducible rfl
                rotate_left
                · simp only [Act.put, List.setIfInBounds_toArray, List.set_cons_zero, List.set_cons_succ, i64_w, i32_w]
                  rfl
                refine pure_ (i := 6) (N := some 28) (v := ?_) (a' := ?_) #[true, true, true, false, true, true, true, false, false, false, false, false, false, false, false, false, false] rfl rfl (any_of HT_.out (by kernel_rfl)) (fun _ _ _ h => h) (Or.inl ⟨by rfl, ?_⟩) ?_ ?_
                rotate_left
                · intro w'
                  go_simp
                  with_reducible rfl
                rotate_left
                · simp only [Act.put, List.setIfInBounds_toArray, List.set_cons_zero, List.set_cons_succ, i64_w, i32_w]
                  rfl
                refine pure_ (i := 9) (N := some 31) (v := ?_) (a' := ?_) #[true, true, true, false, true, true, true, false, false, true, false, false, false, false, false, false, false] rfl rfl (any_of HT_.out (by kernel_rfl)) (fun _ _ _ h => h) (Or.inl ⟨by rfl, ?_⟩) ?_ ?_
                rotate_left
                · intro w'
                  go_simp
                  with_reducible rfl
                rotate_left
                · simp only [Act.put, List.setIfInBounds_toArray, List.set_cons_zero, List.set_cons_succ, i64_w, i32_w]
                  rfl
                refine pure_ (i := 10) (N := some 32) (v := ?_) (a' := ?_) #[true, true, true, false, true, true, true, false, false, true, true, false, false, false, false, false, false] rfl rfl (any_of HT_.out (by kernel_rfl)) (fun _ _ _ h => h) (Or.inl ⟨by rfl, ?_⟩) ?_ ?_
                rotate_left
                · intro w'
                  go_simp
                  with_reducible rfl
                rotate_left
                · simp only [Act.put, List.setIfInBounds_toArray, List.set_cons_zero, List.set_cons_succ, i64_w, i32_w]
                  rfl
                refine pure_ (i := 11) (N := some 33) (v := ?_) (a' := ?_) #[true, true, true, false, true, true, true, false, false, true, true, true, false, false, false, false, false] rfl rfl (any_of HT_.out (by kernel_rfl)) (fun _ _ _ h => h) (Or.inl ⟨by rfl, ?_⟩) ?_ ?_
                rotate_left
                · intro w'
                  go_simp
                  with_reducible rfl
                rotate_left
                · simp only [Act.put, List.setIfInBounds_toArray, List.set_cons_zero, List.set_cons_succ, i64_w, i32_w]
                  rfl
                refine take_ (i := 3) (N := some 25) (v := ?_) (a' := ?_) #[true, true, true, true, true, true, true, false, false, true, true, true, false, false, false, false, false] rfl rfl (take_ofW HT_.out HW_.out (by kernel_rfl)) (fun _ _ _ h => h) (Or.inl ⟨by rfl, ?_⟩) hHeld ?_ ?_
                rotate_left
                · rintro w' ⟨s0, s1, s2⟩
                  go_simp
                  with_reducible rfl
                rotate_left
                · simp only [Act.put, List.setIfInBounds_toArray, List.set_cons_zero, List.set_cons_succ, i64_w, i32_w]
                  rfl
                refine take_ (i := 7) (N := some 29) (v := ?_) (a' := ?_) #[true, true, true, true, true, true, true, true, false, true, true, true, false, false, false, false, false] rfl rfl (take_ofW HT_.out HW_.out (by kernel_rfl)) (fun _ _ _ h => h) (Or.inl ⟨by rfl, ?_⟩) hHeld ?_ ?_
                rotate_left
                · rintro w' ⟨s0, s1, s2⟩
                  go_simp
                  with_reducible rfl
                rotate_left
                · simp only [Act.put, List.setIfInBounds_toArray, List.set_cons_zero, List.set_cons_succ, i64_w, i32_w]
                  rfl
                refine pure_ (i := 8) (N := some 30) (v := ?_) (a' := ?_) #[true, true, true, true, true, true, true, true, true, true, true, true, false, false, false, false, false] rfl rfl (any_of HT_.out (by kernel_rfl)) (fun _ _ _ h => h) (Or.inl ⟨by rfl, ?_⟩) ?_ ?_
                rotate_left
                · intro w'
                  go_simp
                  with_reducible rfl
                rotate_left
                · simp only [Act.put, List.setIfInBounds_toArray, List.set_cons_zero, List.set_cons_succ, i64_w, i32_w]
                  rfl
                refine take_ (i := 12) (N := some 34) (v := ?_) (a' := ?_) #[true, true, true, true, true, true, true, true, true, true, true, true, true, false, false, false, false] rfl rfl (take_ofW HT_.out HW_.out (by kernel_rfl)) (fun _ _ _ h => h) (Or.inl ⟨by rfl, ?_⟩) hHeld ?_ ?_
                rotate_left
                · rintro w' ⟨s0, s1, s2⟩
                  go_simp
                  with_reducible rfl
                rotate_left
                · simp only [Act.put, List.setIfInBounds_toArray, List.set_cons_zero, List.set_cons_succ, i64_w, i32_w]
                  rfl
                refine pure_ (i := 13) (N := some 35) (v := ?_) (a' := ?_) #[true, true, true, true, true, true, true, true, true, true, true, true, true, true, false, false, false] rfl rfl (any_of HT_.out (by kernel_rfl)) (fun _ _ _ h => h) (Or.inl ⟨by rfl, ?_⟩) ?_ ?_
                rotate_left
                · intro w'
                  go_simp
                  with_reducible rfl
                rotate_left
                · simp only [Act.put, List.setIfInBounds_toArray, List.set_cons_zero, List.set_cons_succ, i64_w, i32_w]
                  rfl
                refine pure_ (i := 14) (N := some 36) (v := ?_) (a' := ?_) #[true, true, true, true, true, true, true, true, true, true, true, true, true, true, true, false, false] rfl rfl (any_of HT_.out (by kernel_rfl)) (fun _ _ _ h => h) (Or.inl ⟨by rfl, ?_⟩) ?_ ?_
                rotate_left
                · intro w'
                  go_simp
                  with_reducible rfl
                rotate_left
                · simp only [Act.put, List.setIfInBounds_toArray, List.set_cons_zero, List.set_cons_succ, i64_w, i32_w]
                  rfl
                refine one_ (i := 15) (N := some 9) #[true, true, true, true, true, true, true, true, true, true, true, true, true, true, true, true, false] rfl rfl (one_of HT_.out (by kernel_rfl)) (by decide) (fun K hK => ?_)
                refine box_step ?hg (N := 9) ?hd (cs := #[.slice none 0 0, .bool false, .int .i64 0, .int .u64 0]) (t := 61) ?hr ?_; (case hd => rfl); (case hg => rfl); (case hr => first | (go_simp; done) | (go_simp; rfl))
                intro gb131 hg w12 hbox hb
                have HS0_ := (hb.cell (World.block_lt_of_cell? _ _ (hHeld.1))).trans (hHeld.1)
                have HS1_ := (hb.cell (World.block_lt_of_cell? _ _ (hHeld.2.1))).trans (hHeld.2.1)
                have HS2_ := (hb.cell (World.block_lt_of_cell? _ _ (hHeld.2.2))).trans (hHeld.2.2)
                have n0_ := Aside0.mk (Kd.N_below (Kd.N_elderB (by (with_reducible repeat (first | apply Kd.N_alloc | apply Kd.N_drewN | apply Kd.N_drew)); exact HO_4.out) gb131 (Nat.le_of_eq hg.symm)) hb)
                have n1_ := Aside0.mk (Kd.R_below (by (with_reducible repeat (first | apply Kd.R_alloc | apply Kd.R_drewN | apply Kd.R_drew)); exact HO_5.out) hb)
                have n2_ := Aside0.mk (Kd.R_below (by (with_reducible repeat (first | apply Kd.R_alloc | apply Kd.R_drewN | apply Kd.R_drew)); exact HO_6.out) hb)
                have n3_ := Aside0.mk (Kd.N_below (Kd.N_elderB (by (with_reducible repeat (first | apply Kd.N_alloc | apply Kd.N_drewN | apply Kd.N_drew)); exact HO_7.out) gb131 (Nat.le_of_eq hg.symm)) hb)
                have n4_ := Aside0.mk (Kd.V_below (Kd.V_elderB (by (with_reducible repeat (first | apply Kd.V_alloc | apply Kd.V_drewN | apply Kd.V_drew)); exact HL128_0.out) gb131 (Nat.le_of_eq hg.symm)) hb)
                have n5_ := Aside0.mk (Kd.V_below (Kd.V_elderB (by (with_reducible repeat (first | apply Kd.V_alloc | apply Kd.V_drewN | apply Kd.V_drew)); exact HL129_0.out) gb131 (Nat.le_of_eq hg.symm)) hb)
                have n6_ := Aside0.mk (Kd.C_below (by repeat (first | (with_reducible exact HR128_0.out) | (with_reducible refine Kd.C_alloc ?_ _) | (with_reducible refine Kd.C_drewN ?_ _) | (with_reducible refine Kd.C_drew ?_) | exact HR128_0.out)) hb)
                have n7_ := Aside0.mk (Kd.C_below (by repeat (first | (with_reducible exact HR129_0.out) | (with_reducible refine Kd.C_alloc ?_ _) | (with_reducible refine Kd.C_drewN ?_ _) | (with_reducible refine Kd.C_drew ?_) | exact HR129_0.out)) hb)
                have n8_ := Aside0.mk (below_step (by repeat (first | (with_reducible first | exact HB.out | apply below_alloc | apply pw_below_drewN | apply below_drew1) | exact HB.out)) hb)
                have n9_ := Aside0.mk (hbox)
                have n10_ := Aside0.mk ((by rw [hg]; exact (below_size (by repeat (first | (with_reducible first | exact HB.out | apply below_alloc | apply pw_below_drewN | apply below_drew1) | exact HB.out))) : w.heap.size ≤ gb131))
                have n11_ := Aside0.mk ((by rw [hg]; exact (below_size (by repeat (first | (with_reducible first | exact HB.out | apply below_alloc | apply pw_below_drewN | apply below_drew1) | exact HB.out))) : w.heap.size ≤ gb131))
                clear HO_4
                clear HO_5
                clear HO_6
                clear HO_7
                clear HL128_0
                clear HL129_0
                clear HR128_0
                clear HR129_0
                clear HB
                have HO_4 := n0_
                have HO_5 := n1_
                have HO_6 := n2_
                have HO_7 := n3_
                have HL128_0 := n4_
                have HL129_0 := n5_
                have HR128_0 := n6_
                have HR129_0 := n7_
                have HB := n8_
                have BK131 := n9_
                have GW131 := n10_
                have GE131 := n11_
                clear n0_ n1_ n2_ n3_ n4_ n5_ n6_ n7_ n8_ n9_ n10_ n11_
                clear hb hbox hg
                refine hK.out _ _ ⟨HS0_, HS1_, HS2_⟩ (fun hHeld => ?_)
                clear hK K
                refine norm_ (a' := ?_) ?_ ?_
                rotate_left
                · show Act.put _ (some 9) _ = _
                  simp only [Act.put, List.setIfInBounds_toArray, List.set_cons_zero, List.set_cons_succ, i64_w, i32_w]
                  rfl
                refine one_ (i := 16) (N := none) #[true, true, true, true, true, true, true, true, true, true, true, true, true, true, true, true, true] rfl rfl (one_of HT_.out (by kernel_rfl)) (by decide) (fun K hK => ?_)
                have hs13 : w12.cell? ⟨gb131, 0, none⟩ = some (.slice none 0 0) := (blk_cell BK131.out 0).trans rfl
                have hfs13 := blk_frozen BK131.out 0
                have hs14 : w12.cell? ⟨gb131, 1, none⟩ = some (.bool false) := (blk_cell BK131.out 1).trans rfl
                have hfs14 := blk_frozen BK131.out 1
                have hs15 : w12.cell? ⟨gb131, 2, none⟩ = some (.int .i64 0) := (blk_cell BK131.out 2).trans rfl
                have hfs15 := blk_frozen BK131.out 2
                have hs16 : w12.cell? ⟨gb131, 3, none⟩ = some (.int .u64 0) := (blk_cell BK131.out 3).trans rfl
                have hfs16 := blk_frozen BK131.out 3
                refine skip_ (w1 := ?_) (by rfl) rfl ?_ ?_
                rotate_left
                · go_simp
                  rfl
                refine hK.out _ _ ⟨((cell_far (p := ⟨gb131, _, none⟩) (by first | exact Kd.own_blk (Kd.N_away HO_4.out (fun _ hk => hk.2)) | (rw [add_block]; exact Kd.own_blk (Kd.N_away HO_4.out (fun _ hk => hk.2))) | (show (Addr.add _ _).block ≠ _; rw [add_block]; exact Kd.own_blk (Kd.N_away HO_4.out (fun _ hk => hk.2))) | (dsimp only; exact Kd.own_blk (Kd.N_away HO_4.out (fun _ hk => hk.2)))) _).trans (((cell_far (p := ⟨gb131, _, none⟩) (by first | exact Kd.own_blk (Kd.N_away HO_4.out (fun _ hk => hk.2)) | (rw [add_block]; exact Kd.own_blk (Kd.N_away HO_4.out (fun _ hk => hk.2))) | (show (Addr.add _ _).block ≠ _; rw [add_block]; exact Kd.own_blk (Kd.N_away HO_4.out (fun _ hk => hk.2))) | (dsimp only; exact Kd.own_blk (Kd.N_away HO_4.out (fun _ hk => hk.2)))) _).trans (((cell_far (p := ⟨gb131, _, none⟩) (by first | exact Kd.own_blk (Kd.N_away HO_4.out (fun _ hk => hk.2)) | (rw [add_block]; exact Kd.own_blk (Kd.N_away HO_4.out (fun _ hk => hk.2))) | (show (Addr.add _ _).block ≠ _; rw [add_block]; exact Kd.own_blk (Kd.N_away HO_4.out (fun _ hk => hk.2))) | (dsimp only; exact Kd.own_blk (Kd.N_away HO_4.out (fun _ hk => hk.2)))) _).trans (((cell_far (p := ⟨gb131, _, none⟩) (by first | exact Kd.own_blk (Kd.N_away HO_4.out (fun _ hk => hk.2)) | (rw [add_block]; exact Kd.own_blk (Kd.N_away HO_4.out (fun _ hk => hk.2))) | (show (Addr.add _ _).block ≠ _; rw [add_block]; exact Kd.own_blk (Kd.N_away HO_4.out (fun _ hk => hk.2))) | (dsimp only; exact Kd.own_blk (Kd.N_away HO_4.out (fun _ hk => hk.2)))) _).trans (hHeld.1)))))))), ((cell_far (p := ⟨gb131, _, none⟩) (by first | exact Kd.own_blk (Kd.N_away HO_4.out (fun _ hk => hk.2)) | (rw [add_block]; exact Kd.own_blk (Kd.N_away HO_4.out (fun _ hk => hk.2))) | (show (Addr.add _ _).block ≠ _; rw [add_block]; exact Kd.own_blk (Kd.N_away HO_4.out (fun _ hk => hk.2))) | (dsimp only; exact Kd.own_blk (Kd.N_away HO_4.out (fun _ hk => hk.2)))) _).trans (((cell_far (p := ⟨gb131, _, none⟩) (by first | exact Kd.own_blk (Kd.N_away HO_4.out (fun _ hk => hk.2)) | (rw [add_block]; exact Kd.own_blk (Kd.N_away HO_4.out (fun _ hk => hk.2))) | (show (Addr.add _ _).block ≠ _; rw [add_block]; exact Kd.own_blk (Kd.N_away HO_4.out (fun _ hk => hk.2))) | (dsimp only; exact Kd.own_blk (Kd.N_away HO_4.out (fun _ hk => hk.2)))) _).trans (((cell_far (p := ⟨gb131, _, none⟩) (by first | exact Kd.own_blk (Kd.N_away HO_4.out (fun _ hk => hk.2)) | (rw [add_block]; exact Kd.own_blk (Kd.N_away HO_4.out (fun _ hk => hk.2))) | (show (Addr.add _ _).block ≠ _; rw [add_block]; exact Kd.own_blk (Kd.N_away HO_4.out (fun _ hk => hk.2))) | (dsimp only; exact Kd.own_blk (Kd.N_away HO_4.out (fun _ hk => hk.2)))) _).trans (((cell_far (p := ⟨gb131, _, none⟩) (by first | exact Kd.own_blk (Kd.N_away HO_4.out (fun _ hk => hk.2)) | (rw [add_block]; exact Kd.own_blk (Kd.N_away HO_4.out (fun _ hk => hk.2))) | (show (Addr.add _ _).block ≠ _; rw [add_block]; exact Kd.own_blk (Kd.N_away HO_4.out (fun _ hk => hk.2))) | (dsimp only; exact Kd.own_blk (Kd.N_away HO_4.out (fun _ hk => hk.2)))) _).trans (hHeld.2.1)))))))), ((cell_far (p := ⟨gb131, _, none⟩) (by first | exact Kd.own_blk (Kd.R_ne HO_5.out BK131.out (by decide)) | (rw [add_block]; exact Kd.own_blk (Kd.R_ne HO_5.out BK131.out (by decide))) | (show (Addr.add _ _).block ≠ _; rw [add_block]; exact Kd.own_blk (Kd.R_ne HO_5.out BK131.out (by decide))) | (dsimp only; exact Kd.own_blk (Kd.R_ne HO_5.out BK131.out (by decide)))) _).trans (((cell_far (p := ⟨gb131, _, none⟩) (by first | exact Kd.own_blk (Kd.R_ne HO_5.out BK131.out (by decide)) | (rw [add_block]; exact Kd.own_blk (Kd.R_ne HO_5.out BK131.out (by decide))) | (show (Addr.add _ _).block ≠ _; rw [add_block]; exact Kd.own_blk (Kd.R_ne HO_5.out BK131.out (by decide))) | (dsimp only; exact Kd.own_blk (Kd.R_ne HO_5.out BK131.out (by decide)))) _).trans (((cell_far (p := ⟨gb131, _, none⟩) (by first | exact Kd.own_blk (Kd.R_ne HO_5.out BK131.out (by decide)) | (rw [add_block]; exact Kd.own_blk (Kd.R_ne HO_5.out BK131.out (by decide))) | (show (Addr.add _ _).block ≠ _; rw [add_block]; exact Kd.own_blk (Kd.R_ne HO_5.out BK131.out (by decide))) | (dsimp only; exact Kd.own_blk (Kd.R_ne HO_5.out BK131.out (by decide)))) _).trans (((cell_far (p := ⟨gb131, _, none⟩) (by first | exact Kd.own_blk (Kd.R_ne HO_5.out BK131.out (by decide)) | (rw [add_block]; exact Kd.own_blk (Kd.R_ne HO_5.out BK131.out (by decide))) | (show (Addr.add _ _).block ≠ _; rw [add_block]; exact Kd.own_blk (Kd.R_ne HO_5.out BK131.out (by decide))) | (dsimp only; exact Kd.own_blk (Kd.R_ne HO_5.out BK131.out (by decide)))) _).trans (hHeld.2.2))))))))⟩ (fun hHeld => ?_)
                clear hK K
                refine done_ (done_of HT_.out (by kernel_rfl)) ?_
                have n0_ : Aside0 (Kd.N (Kd.slice 5 (Kd.int .u8)) 22 ((((w12.setCell ⟨gb131, 0, none⟩ (.slice A128_0 (rd_L1 t119 x8_1).length c128_0)).setCell ⟨gb131, 1, none⟩ (.bool false)).setCell ⟨gb131, 2, none⟩ (.int .i64 ((rd_L1 t119 x8_1).length : Int))).setCell ⟨gb131, 3, none⟩ (.int .u64 (IntKind.u64.wrap (rd t120 x8_1)))) w.heap.size (fun k_ => (w.heap.size ≤ k_) ∧ some k_ ≠ (.slice (some ad130) t120.length co11 : Value).ownBlock ∧ some k_ ≠ (v126 : Value).ownBlock ∧ some k_ ≠ (u7 : Value).ownBlock ∧ k_ ≠ gb131) (.slice (some ad128) t119.length co9) t119) := ⟨by (with_reducible repeat (first | apply Kd.N_alloc | apply Kd.N_drewN | apply Kd.N_drew)); exact Kd.N_mono (Kd.N_far (p := ⟨gb131, 3, none⟩) (Kd.N_far (p := ⟨gb131, 2, none⟩) (Kd.N_far (p := ⟨gb131, 1, none⟩) (Kd.N_far (p := ⟨gb131, 0, none⟩) (Kd.N_mono HO_4.out (fun k_ hk => (⟨hk, hk.2⟩ : _ ∧ k_ ≠ gb131))) (fun _ hk => hk.2) (.slice A128_0 (rd_L1 t119 x8_1).length c128_0)) (fun _ hk => hk.2) (.bool false)) (fun _ hk => hk.2) (.int .i64 ((rd_L1 t119 x8_1).length : Int))) (fun _ hk => hk.2) (.int .u64 (IntKind.u64.wrap (rd t120 x8_1)))) (fun _ hk => ⟨hk.1.1.1, ⟨hk.1.1.2.1, ⟨hk.1.1.2.2.1, ⟨hk.1.1.2.2.2, hk.1.2⟩⟩⟩⟩)⟩
                have n1_ : Aside0 (Kd.R (Kd.int .i64) 3 ((((w12.setCell ⟨gb131, 0, none⟩ (.slice A128_0 (rd_L1 t119 x8_1).length c128_0)).setCell ⟨gb131, 1, none⟩ (.bool false)).setCell ⟨gb131, 2, none⟩ (.int .i64 ((rd_L1 t119 x8_1).length : Int))).setCell ⟨gb131, 3, none⟩ (.int .u64 (IntKind.u64.wrap (rd t120 x8_1)))) w.heap.size (fun k_ => (w.heap.size ≤ k_)) (.slice (some ad130) t120.length co11) t120) := ⟨by (with_reducible repeat (first | apply Kd.R_alloc | apply Kd.R_drewN | apply Kd.R_drew)); exact Kd.R_mono (Kd.R_far (p := ⟨gb131, 3, none⟩) (Kd.R_far (p := ⟨gb131, 2, none⟩) (Kd.R_far (p := ⟨gb131, 1, none⟩) (Kd.R_far (p := ⟨gb131, 0, none⟩) (Kd.R_types HO_5.out BK131.out (by decide)) (fun _ hk => hk.2) (.slice A128_0 (rd_L1 t119 x8_1).length c128_0)) (fun _ hk => hk.2) (.bool false)) (fun _ hk => hk.2) (.int .i64 ((rd_L1 t119 x8_1).length : Int))) (fun _ hk => hk.2) (.int .u64 (IntKind.u64.wrap (rd t120 x8_1)))) (fun _ hk => hk.1)⟩
                have n2_ : Aside0 (Kd.R (Kd.int .u8) 5 ((((w12.setCell ⟨gb131, 0, none⟩ (.slice A128_0 (rd_L1 t119 x8_1).length c128_0)).setCell ⟨gb131, 1, none⟩ (.bool false)).setCell ⟨gb131, 2, none⟩ (.int .i64 ((rd_L1 t119 x8_1).length : Int))).setCell ⟨gb131, 3, none⟩ (.int .u64 (IntKind.u64.wrap (rd t120 x8_1)))) w.heap.size (fun k_ => (w.heap.size ≤ k_)) v126 t121) := ⟨by (with_reducible repeat (first | apply Kd.R_alloc | apply Kd.R_drewN | apply Kd.R_drew)); exact Kd.R_mono (Kd.R_far (p := ⟨gb131, 3, none⟩) (Kd.R_far (p := ⟨gb131, 2, none⟩) (Kd.R_far (p := ⟨gb131, 1, none⟩) (Kd.R_far (p := ⟨gb131, 0, none⟩) (Kd.R_types HO_6.out BK131.out (by decide)) (fun _ hk => hk.2) (.slice A128_0 (rd_L1 t119 x8_1).length c128_0)) (fun _ hk => hk.2) (.bool false)) (fun _ hk => hk.2) (.int .i64 ((rd_L1 t119 x8_1).length : Int))) (fun _ hk => hk.2) (.int .u64 (IntKind.u64.wrap (rd t120 x8_1)))) (fun _ hk => hk.1)⟩
                have n3_ : Aside0 (Kd.N k61 61 ((((w12.setCell ⟨gb131, 0, none⟩ (.slice A128_0 (rd_L1 t119 x8_1).length c128_0)).setCell ⟨gb131, 1, none⟩ (.bool false)).setCell ⟨gb131, 2, none⟩ (.int .i64 ((rd_L1 t119 x8_1).length : Int))).setCell ⟨gb131, 3, none⟩ (.int .u64 (IntKind.u64.wrap (rd t120 x8_1)))) w.heap.size (fun k_ => (w.heap.size ≤ k_) ∧ some k_ ≠ (.slice (some ad128) t119.length co9 : Value).ownBlock ∧ some k_ ≠ (.slice (some ad130) t120.length co11 : Value).ownBlock ∧ some k_ ≠ (v126 : Value).ownBlock ∧ k_ ≠ gb131) u7 x7_1) := ⟨by (with_reducible repeat (first | apply Kd.N_alloc | apply Kd.N_drewN | apply Kd.N_drew)); exact Kd.N_mono (Kd.N_far (p := ⟨gb131, 3, none⟩) (Kd.N_far (p := ⟨gb131, 2, none⟩) (Kd.N_far (p := ⟨gb131, 1, none⟩) (Kd.N_far (p := ⟨gb131, 0, none⟩) (Kd.N_mono HO_7.out (fun k_ hk => (⟨hk, hk.2⟩ : _ ∧ k_ ≠ gb131))) (fun _ hk => hk.2) (.slice A128_0 (rd_L1 t119 x8_1).length c128_0)) (fun _ hk => hk.2) (.bool false)) (fun _ hk => hk.2) (.int .i64 ((rd_L1 t119 x8_1).length : Int))) (fun _ hk => hk.2) (.int .u64 (IntKind.u64.wrap (rd t120 x8_1)))) (fun _ hk => ⟨hk.1.1.1, ⟨hk.1.1.2.1, ⟨hk.1.1.2.2.1, ⟨hk.1.1.2.2.2, hk.1.2⟩⟩⟩⟩)⟩
                have n4_ : Aside0 (Kd.V (Kd.int .u8) 5 ((((w12.setCell ⟨gb131, 0, none⟩ (.slice A128_0 (rd_L1 t119 x8_1).length c128_0)).setCell ⟨gb131, 1, none⟩ (.bool false)).setCell ⟨gb131, 2, none⟩ (.int .i64 ((rd_L1 t119 x8_1).length : Int))).setCell ⟨gb131, 3, none⟩ (.int .u64 (IntKind.u64.wrap (rd t120 x8_1)))) w.heap.size (fun k_ => (w.heap.size ≤ k_) ∧ some k_ ≠ (.slice (some ad128) t119.length co9 : Value).ownBlock ∧ some k_ ≠ (.slice (some ad130) t120.length co11 : Value).ownBlock ∧ some k_ ≠ (v126 : Value).ownBlock ∧ some k_ ≠ (u7 : Value).ownBlock ∧ k_ ≠ gb131) (.slice A128_0 (rd_L1 t119 x8_1).length c128_0) (rd_L1 t119 x8_1)) := ⟨by (with_reducible repeat (first | apply Kd.V_alloc | apply Kd.V_drewN | apply Kd.V_drew)); exact Kd.V_mono (Kd.V_far (p := ⟨gb131, 3, none⟩) (Kd.V_far (p := ⟨gb131, 2, none⟩) (Kd.V_far (p := ⟨gb131, 1, none⟩) (Kd.V_far (p := ⟨gb131, 0, none⟩) (Kd.V_mono HL128_0.out (fun k_ hk => (⟨hk, hk.2⟩ : _ ∧ k_ ≠ gb131))) (fun _ hk => hk.2) (.slice A128_0 (rd_L1 t119 x8_1).length c128_0)) (fun _ hk => hk.2) (.bool false)) (fun _ hk => hk.2) (.int .i64 ((rd_L1 t119 x8_1).length : Int))) (fun _ hk => hk.2) (.int .u64 (IntKind.u64.wrap (rd t120 x8_1)))) (fun _ hk => ⟨hk.1.1.1.1, ⟨hk.1.1.2, ⟨hk.1.1.1.2.1, ⟨hk.1.1.1.2.2.1, ⟨hk.1.1.1.2.2.2, hk.1.2⟩⟩⟩⟩⟩)⟩
                have n5_ : Aside0 (Kd.V (Kd.int .u8) 5 ((((w12.setCell ⟨gb131, 0, none⟩ (.slice A128_0 (rd_L1 t119 x8_1).length c128_0)).setCell ⟨gb131, 1, none⟩ (.bool false)).setCell ⟨gb131, 2, none⟩ (.int .i64 ((rd_L1 t119 x8_1).length : Int))).setCell ⟨gb131, 3, none⟩ (.int .u64 (IntKind.u64.wrap (rd t120 x8_1)))) w.heap.size (fun k_ => (w.heap.size ≤ k_) ∧ some k_ ≠ (.slice (some ad128) t119.length co9 : Value).ownBlock ∧ some k_ ≠ (.slice (some ad130) t120.length co11 : Value).ownBlock ∧ some k_ ≠ (v126 : Value).ownBlock ∧ some k_ ≠ (u7 : Value).ownBlock ∧ k_ ≠ gb131) (.slice A128_0 (rd_L1 t119 x8_1).length c128_0) (rd_L1 t119 x8_1)) := ⟨by (with_reducible repeat (first | apply Kd.V_alloc | apply Kd.V_drewN | apply Kd.V_drew)); exact Kd.V_mono (Kd.V_far (p := ⟨gb131, 3, none⟩) (Kd.V_far (p := ⟨gb131, 2, none⟩) (Kd.V_far (p := ⟨gb131, 1, none⟩) (Kd.V_far (p := ⟨gb131, 0, none⟩) (Kd.V_mono HL129_0.out (fun k_ hk => (⟨hk, hk.2⟩ : _ ∧ k_ ≠ gb131))) (fun _ hk => hk.2) (.slice A128_0 (rd_L1 t119 x8_1).length c128_0)) (fun _ hk => hk.2) (.bool false)) (fun _ hk => hk.2) (.int .i64 ((rd_L1 t119 x8_1).length : Int))) (fun _ hk => hk.2) (.int .u64 (IntKind.u64.wrap (rd t120 x8_1)))) (fun _ hk => ⟨hk.1.1.1.1, ⟨hk.1.1.2, ⟨hk.1.1.1.2.1, ⟨hk.1.1.1.2.2.1, ⟨hk.1.1.1.2.2.2, hk.1.2⟩⟩⟩⟩⟩)⟩
                have n6_ : Aside0 (((((w12.setCell ⟨gb131, 0, none⟩ (.slice A128_0 (rd_L1 t119 x8_1).length c128_0)).setCell ⟨gb131, 1, none⟩ (.bool false)).setCell ⟨gb131, 2, none⟩ (.int .i64 ((rd_L1 t119 x8_1).length : Int))).setCell ⟨gb131, 3, none⟩ (.int .u64 (IntKind.u64.wrap (rd t120 x8_1)))).heap[gb131]? = some (.cells #[.slice A128_0 (rd_L1 t119 x8_1).length c128_0, .bool false, .int .i64 ((rd_L1 t119 x8_1).length : Int), .int .u64 (IntKind.u64.wrap (rd t120 x8_1))] 61 (0, 0))) := ⟨by (with_reducible repeat (first | refine blk_drewN ?_ _ | refine blk_drew ?_ | refine blk_alloc ?_ _)); refine blk_put (cs := #[.slice A128_0 (rd_L1 t119 x8_1).length c128_0, .bool false, .int .i64 ((rd_L1 t119 x8_1).length : Int), .int .u64 0]) ?_ 3 _ rfl; (with_reducible repeat (first | refine blk_drewN ?_ _ | refine blk_drew ?_ | refine blk_alloc ?_ _)); refine blk_put (cs := #[.slice A128_0 (rd_L1 t119 x8_1).length c128_0, .bool false, .int .i64 0, .int .u64 0]) ?_ 2 _ rfl; (with_reducible repeat (first | refine blk_drewN ?_ _ | refine blk_drew ?_ | refine blk_alloc ?_ _)); refine blk_put (cs := #[.slice A128_0 (rd_L1 t119 x8_1).length c128_0, .bool false, .int .i64 0, .int .u64 0]) ?_ 1 _ rfl; (with_reducible repeat (first | refine blk_drewN ?_ _ | refine blk_drew ?_ | refine blk_alloc ?_ _)); refine blk_put (cs := #[.slice none 0 0, .bool false, .int .i64 0, .int .u64 0]) ?_ 0 _ rfl; (with_reducible repeat (first | refine blk_drewN ?_ _ | refine blk_drew ?_ | refine blk_alloc ?_ _)); exact BK131.out⟩
                have n7_ : Aside0 (Below w.heap.size w ((((w12.setCell ⟨gb131, 0, none⟩ (.slice A128_0 (rd_L1 t119 x8_1).length c128_0)).setCell ⟨gb131, 1, none⟩ (.bool false)).setCell ⟨gb131, 2, none⟩ (.int .i64 ((rd_L1 t119 x8_1).length : Int))).setCell ⟨gb131, 3, none⟩ (.int .u64 (IntKind.u64.wrap (rd t120 x8_1))))) := ⟨by repeat (first | (with_reducible first | exact HB.out | apply below_alloc | apply pw_below_drewN | apply below_drew1 | refine below_set ?_ GE131.out) | exact HB.out)⟩
                (try clear HO_4)
                (try clear HO_5)
                (try clear HO_6)
                (try clear HO_7)
                (try clear HL128_0)
                (try clear HL129_0)
                (try clear BK131)
                (try clear HB)
                generalize ((((w12.setCell ⟨gb131, 0, none⟩ (.slice A128_0 (rd_L1 t119 x8_1).length c128_0)).setCell ⟨gb131, 1, none⟩ (.bool false)).setCell ⟨gb131, 2, none⟩ (.int .i64 ((rd_L1 t119 x8_1).length : Int))).setCell ⟨gb131, 3, none⟩ (.int .u64 (IntKind.u64.wrap (rd t120 x8_1)))) = w17 at n0_ n1_ n2_ n3_ n4_ n5_ n6_ n7_ ⊢
                have HO_4 := n0_
                have HO_5 := n1_
                have HO_6 := n2_
                have HO_7 := n3_
                have HL128_0 := n4_
                have HL129_0 := n5_
                have BK131 := n6_
                have HB := n7_
                clear n0_ n1_ n2_ n3_ n4_ n5_ n6_ n7_
                have p132 : 0 ≤ (x8_1 : Int) := of_decide_eq_true (by first | (with_reducible assumption) | assumption)
                have q132 : x8_1 < (t119.length : Int) := of_decide_eq_true (by first | (with_reducible assumption) | assumption)
                obtain ⟨ad132, A132_0, c132_0, e132, hx132_0, hl132_0, hi132_0⟩ := at_L1 (Kd.N_reads' HO_4.out).2.2 x8_1 p132 q132
                obtain rfl : ad128 = ad132 := (by injection e132)
                obtain ⟨ce132, hce132, hMe132, hcc132⟩ := Kd.N_get HO_4.out [] x8_1 p132 (by first | exact q132 | exact of_decide_eq_true (by first | (with_reducible assumption) | assumption) | (have e_ := (Kd.N_reads' HO_4.out).1; omega))
                obtain ⟨ua132_0, uc132_0, rfl, ul132_0, ge132_0⟩ := Kd.FK_slice_open hMe132
                have hv132_0 := hcc132 0 _ rfl
                rw [Nat.add_zero, show ((Kd.slice 5 (Kd.int .u8))).sz = 1 from rfl, Nat.mul_one] at hv132_0
                replace hv132_0 := Option.some.inj (hv132_0.symm.trans hx132_0)
                injection hv132_0 with hva_ hvn_ hvc_
                rw [hva_] at ge132_0
                rw [hvc_] at ul132_0
                have HL132_0 := Aside0.mk (show Kd.V (Kd.int .u8) 5 _ w.heap.size _ _ (rd_L1 t119 x8_1) from Kd.V_mk ul132_0 ge132_0)
                clear hva_ hvn_ hvc_ ge132_0 ul132_0
                clear hcc132 hce132
                have HR132_0 := Aside0.mk hi132_0
                have HC132_0 := Aside0.mk hl132_0
                clear hi132_0 hl132_0
                replace p132 := eq_true p132
                replace q132 := eq_true q132
                have hcz18_0 : w17.cell? ⟨gb131, 0, none⟩ = some (.slice A128_0 (rd_L1 t119 x8_1).length c128_0) := (blk_cell BK131.out 0).trans rfl
                have hcz18_1 : w17.cell? ⟨gb131, 1, none⟩ = some (.bool false) := (blk_cell BK131.out 1).trans rfl
                have hcz18_2 : w17.cell? ⟨gb131, 2, none⟩ = some (.int .i64 ((rd_L1 t119 x8_1).length : Int)) := (blk_cell BK131.out 2).trans rfl
                have hcz18_3 : w17.cell? ⟨gb131, 3, none⟩ = some (.int .u64 (IntKind.u64.wrap (rd t120 x8_1))) := (blk_cell BK131.out 3).trans rfl
                have hfz18_0 := blk_frozen BK131.out 0
                have hfz18_1 := blk_frozen BK131.out 1
                have hfz18_2 := blk_frozen BK131.out 2
                have hfz18_3 := blk_frozen BK131.out 3
                try go_wp2_with (first | ((with_reducible refine gate_builtin (b := .append) (xs := #[.tmp 45, .tmp 47]) rfl ?_); at_builtin; refine Kd.N_append k61 (w0 := w) w.heap.size rfl (.tmp 45) (.tmp 47) 43 61 (.agg #[(.slice none 0 0), (.bool false), (.int .i64 0), (.int .u64 0)]) 48 rfl Try.underlying43 info61 rfl (by decide) (by omega) u7 x7_1 (⟨([] : List Int), true, ((rd_L1 t119 x8_1).length : Int), IntKind.u64.wrap (rd t120 x8_1)⟩ : S61) [.slice none 0 0, .bool true, .int .i64 ((rd_L1 t119 x8_1).length : Int), .int .u64 (IntKind.u64.wrap (rd t120 x8_1))] (fun k_ => (w.heap.size ≤ k_) ∧ some k_ ≠ (.slice (some ad128) t119.length co9 : Value).ownBlock ∧ some k_ ≠ (.slice (some ad130) t120.length co11 : Value).ownBlock ∧ some k_ ≠ (v126 : Value).ownBlock ∧ k_ ≠ gb131) (fun k_ => ((fun k_ => (w.heap.size ≤ k_) ∧ some k_ ≠ (.slice (some ad128) t119.length co9 : Value).ownBlock ∧ some k_ ≠ (.slice (some ad130) t120.length co11 : Value).ownBlock ∧ some k_ ≠ (v126 : Value).ownBlock ∧ k_ ≠ gb131)) k_ ∧ some k_ ≠ (u7 : Value).ownBlock) rfl (by first | (go_simp; done) | (go_simp; rfl)) ?aP (fun _ hk => hk) ?aF ?aO ?aB ?aS ?aL ?_; (case aP => exact (k61_mkF _ _ (⟨([] : List Int), true, ((rd_L1 t119 x8_1).length : Int), IntKind.u64.wrap (rd t120 x8_1)⟩ : S61) (Nat.le_refl _) (Kd.F_nil _ _ _))); (case aB => exact (by repeat (first | (with_reducible first | exact HB.out | apply below_alloc | apply pw_below_drewN | apply below_drew1 | refine below_set ?_ GE131.out) | exact HB.out))); (case aF => exact (fun k_ hk => ⟨(Nat.le_trans (below_size (by repeat (first | (with_reducible first | exact HB.out | apply below_alloc | apply pw_below_drewN | apply below_drew1 | refine below_set ?_ GE131.out) | exact HB.out))) hk), Kd.fresh' (Kd.N_lt (by (with_reducible repeat (first | apply Kd.N_alloc | apply Kd.N_drewN | apply Kd.N_drew)); exact (Kd.N_mono (Kd.N_far (p := ⟨gb131, 1, none⟩) (Kd.N_far (p := ⟨gb131, 0, none⟩) (Kd.N_mono HO_4.out (fun k_ hk => (⟨hk, hk.2.2.2.2⟩ : _ ∧ k_ ≠ gb131))) (fun _ hk => hk.2) (.slice none 0 0)) (fun _ hk => hk.2) (.bool true)) (fun _ h_ => h_.1)))) k_ hk, Kd.fresh' (Kd.R_lt (by (with_reducible repeat (first | apply Kd.R_alloc | apply Kd.R_drewN | apply Kd.R_drew)); exact (Kd.R_mono (Kd.R_far (p := ⟨gb131, 1, none⟩) (Kd.R_far (p := ⟨gb131, 0, none⟩) (Kd.R_types HO_5.out BK131.out (by decide)) (fun _ hk => hk.2) (.slice none 0 0)) (fun _ hk => hk.2) (.bool true)) (fun _ h_ => h_.1)))) k_ hk, Kd.fresh' (Kd.R_lt (by (with_reducible repeat (first | apply Kd.R_alloc | apply Kd.R_drewN | apply Kd.R_drew)); exact (Kd.R_mono (Kd.R_far (p := ⟨gb131, 1, none⟩) (Kd.R_far (p := ⟨gb131, 0, none⟩) (Kd.R_types HO_6.out BK131.out (by decide)) (fun _ hk => hk.2) (.slice none 0 0)) (fun _ hk => hk.2) (.bool true)) (fun _ h_ => h_.1)))) k_ hk, Kd.freshB (g := gb131) (o := .cells #[.slice none 0 0, .bool true, .int .i64 ((rd_L1 t119 x8_1).length : Int), .int .u64 (IntKind.u64.wrap (rd t120 x8_1))] 61 (0, 0)) (by (with_reducible repeat (first | refine blk_drewN ?_ _ | refine blk_drew ?_ | refine blk_alloc ?_ _)); refine blk_put (cs := #[.slice none 0 0, .bool false, .int .i64 ((rd_L1 t119 x8_1).length : Int), .int .u64 (IntKind.u64.wrap (rd t120 x8_1))]) ?_ 1 _ rfl; (with_reducible repeat (first | refine blk_drewN ?_ _ | refine blk_drew ?_ | refine blk_alloc ?_ _)); refine blk_put (cs := #[.slice A128_0 (rd_L1 t119 x8_1).length c128_0, .bool false, .int .i64 ((rd_L1 t119 x8_1).length : Int), .int .u64 (IntKind.u64.wrap (rd t120 x8_1))]) ?_ 0 _ rfl; (with_reducible repeat (first | refine blk_drewN ?_ _ | refine blk_drew ?_ | refine blk_alloc ?_ _)); exact BK131.out) k_ hk⟩)); (case aO => exact (by (with_reducible repeat (first | apply Kd.N_alloc | apply Kd.N_drewN | apply Kd.N_drew)); exact Kd.N_mono (Kd.N_far (p := ⟨gb131, 1, none⟩) (Kd.N_far (p := ⟨gb131, 0, none⟩) (Kd.N_mono HO_7.out (fun k_ hk => (⟨hk, hk.2.2.2.2⟩ : _ ∧ k_ ≠ gb131))) (fun _ hk => hk.2) (.slice none 0 0)) (fun _ hk => hk.2) (.bool true)) (fun _ hk => ⟨hk.1.1, ⟨hk.1.2.1, ⟨hk.1.2.2.1, ⟨hk.1.2.2.2.1, hk.1.2.2.2.2⟩⟩⟩⟩))); (case aS => exact (below_size (by repeat (first | (with_reducible first | exact HB.out | apply below_alloc | apply pw_below_drewN | apply below_drew1 | refine below_set ?_ GE131.out) | exact HB.out)))); (case aL => have := LMc8.out; omega); intro v134 w19 ho hb hg hat; rw [← Ny133.out] at ho; have n0_ := Aside0.mk (Kd.N_afterv (ok := (fun k_ => (w.heap.size ≤ k_) ∧ some k_ ≠ (.slice (some ad130) t120.length co11 : Value).ownBlock ∧ some k_ ≠ (v126 : Value).ownBlock ∧ k_ ≠ gb131)) (by (with_reducible repeat (first | apply Kd.N_alloc | apply Kd.N_drewN | apply Kd.N_drew)); exact Kd.N_mono (Kd.N_far (p := ⟨gb131, 1, none⟩) (Kd.N_far (p := ⟨gb131, 0, none⟩) (Kd.N_mono HO_4.out (fun k_ hk => (⟨hk, hk.2.2.2.2⟩ : _ ∧ k_ ≠ gb131))) (fun _ hk => hk.2) (.slice none 0 0)) (fun _ hk => hk.2) (.bool true)) (fun _ hk => ⟨⟨hk.1.1, ⟨hk.1.2.1, ⟨hk.1.2.2.1, hk.1.2.2.2.2⟩⟩⟩, hk.1.2.2.2.1⟩)) hg hat); have n1_ := Aside0.mk (Kd.R_over' (by (with_reducible repeat (first | apply Kd.R_alloc | apply Kd.R_drewN | apply Kd.R_drew)); exact (Kd.R_mono (Kd.R_far (p := ⟨gb131, 1, none⟩) (Kd.R_far (p := ⟨gb131, 0, none⟩) (Kd.R_types HO_5.out BK131.out (by decide)) (fun _ hk => hk.2) (.slice none 0 0)) (fun _ hk => hk.2) (.bool true)) (fun _ h_ => h_.1))) (Kd.N_typed (by (with_reducible repeat (first | apply Kd.N_alloc | apply Kd.N_drewN | apply Kd.N_drew)); exact (Kd.N_mono (Kd.N_far (p := ⟨gb131, 1, none⟩) (Kd.N_far (p := ⟨gb131, 0, none⟩) (Kd.N_mono HO_7.out (fun k_ hk => (⟨hk, hk.2.2.2.2⟩ : _ ∧ k_ ≠ gb131))) (fun _ hk => hk.2) (.slice none 0 0)) (fun _ hk => hk.2) (.bool true)) (fun _ h_ => h_.1)))) (by decide) hg); have n2_ := Aside0.mk (Kd.R_over' (by (with_reducible repeat (first | apply Kd.R_alloc | apply Kd.R_drewN | apply Kd.R_drew)); exact (Kd.R_mono (Kd.R_far (p := ⟨gb131, 1, none⟩) (Kd.R_far (p := ⟨gb131, 0, none⟩) (Kd.R_types HO_6.out BK131.out (by decide)) (fun _ hk => hk.2) (.slice none 0 0)) (fun _ hk => hk.2) (.bool true)) (fun _ h_ => h_.1))) (Kd.N_typed (by (with_reducible repeat (first | apply Kd.N_alloc | apply Kd.N_drewN | apply Kd.N_drew)); exact (Kd.N_mono (Kd.N_far (p := ⟨gb131, 1, none⟩) (Kd.N_far (p := ⟨gb131, 0, none⟩) (Kd.N_mono HO_7.out (fun k_ hk => (⟨hk, hk.2.2.2.2⟩ : _ ∧ k_ ≠ gb131))) (fun _ hk => hk.2) (.slice none 0 0)) (fun _ hk => hk.2) (.bool true)) (fun _ h_ => h_.1)))) (by decide) hg); have n3_ := Aside0.mk (Kd.V_afterv (ok := (fun k_ => (w.heap.size ≤ k_) ∧ some k_ ≠ (.slice (some ad128) t119.length co9 : Value).ownBlock ∧ some k_ ≠ (.slice (some ad130) t120.length co11 : Value).ownBlock ∧ some k_ ≠ (v126 : Value).ownBlock ∧ k_ ≠ gb131)) (by (with_reducible repeat (first | apply Kd.V_alloc | apply Kd.V_drewN | apply Kd.V_drew)); exact Kd.V_mono (Kd.V_far (p := ⟨gb131, 1, none⟩) (Kd.V_far (p := ⟨gb131, 0, none⟩) (Kd.V_mono HL128_0.out (fun k_ hk => (⟨hk, hk.2.2.2.2.2⟩ : _ ∧ k_ ≠ gb131))) (fun _ hk => hk.2) (.slice none 0 0)) (fun _ hk => hk.2) (.bool true)) (fun _ hk => ⟨⟨hk.1.1, ⟨hk.1.2.1, ⟨hk.1.2.2.1, ⟨hk.1.2.2.2.1, hk.1.2.2.2.2.2⟩⟩⟩⟩, hk.1.2.2.2.2.1⟩)) hg hat); have n4_ := Aside0.mk (Kd.V_afterv (ok := (fun k_ => (w.heap.size ≤ k_) ∧ some k_ ≠ (.slice (some ad128) t119.length co9 : Value).ownBlock ∧ some k_ ≠ (.slice (some ad130) t120.length co11 : Value).ownBlock ∧ some k_ ≠ (v126 : Value).ownBlock ∧ k_ ≠ gb131)) (by (with_reducible repeat (first | apply Kd.V_alloc | apply Kd.V_drewN | apply Kd.V_drew)); exact Kd.V_mono (Kd.V_far (p := ⟨gb131, 1, none⟩) (Kd.V_far (p := ⟨gb131, 0, none⟩) (Kd.V_mono HL129_0.out (fun k_ hk => (⟨hk, hk.2.2.2.2.2⟩ : _ ∧ k_ ≠ gb131))) (fun _ hk => hk.2) (.slice none 0 0)) (fun _ hk => hk.2) (.bool true)) (fun _ hk => ⟨⟨hk.1.1, ⟨hk.1.2.1, ⟨hk.1.2.2.1, ⟨hk.1.2.2.2.1, hk.1.2.2.2.2.2⟩⟩⟩⟩, hk.1.2.2.2.2.1⟩)) hg hat); have n5_ := Aside0.mk (blk_grown (g := gb131) (o := .cells #[.slice none 0 0, .bool true, .int .i64 ((rd_L1 t119 x8_1).length : Int), .int .u64 (IntKind.u64.wrap (rd t120 x8_1))] 61 (0, 0)) (by (with_reducible repeat (first | refine blk_drewN ?_ _ | refine blk_drew ?_ | refine blk_alloc ?_ _)); refine blk_put (cs := #[.slice none 0 0, .bool false, .int .i64 ((rd_L1 t119 x8_1).length : Int), .int .u64 (IntKind.u64.wrap (rd t120 x8_1))]) ?_ 1 _ rfl; (with_reducible repeat (first | refine blk_drewN ?_ _ | refine blk_drew ?_ | refine blk_alloc ?_ _)); refine blk_put (cs := #[.slice A128_0 (rd_L1 t119 x8_1).length c128_0, .bool false, .int .i64 ((rd_L1 t119 x8_1).length : Int), .int .u64 (IntKind.u64.wrap (rd t120 x8_1))]) ?_ 0 _ rfl; (with_reducible repeat (first | refine blk_drewN ?_ _ | refine blk_drew ?_ | refine blk_alloc ?_ _)); exact BK131.out) hg (Kd.N_away HO_7.out (fun _ hk => hk.2.2.2.2))); have n6_ := Aside0.mk (Kd.V_afterv (ok := (fun k_ => (w.heap.size ≤ k_) ∧ some k_ ≠ (.slice (some ad128) t119.length co9 : Value).ownBlock ∧ some k_ ≠ (.slice (some ad130) t120.length co11 : Value).ownBlock ∧ some k_ ≠ (v126 : Value).ownBlock ∧ k_ ≠ gb131)) (by (with_reducible repeat (first | apply Kd.V_alloc | apply Kd.V_drewN | apply Kd.V_drew)); exact Kd.V_mono (Kd.V_far (p := ⟨gb131, 1, none⟩) (Kd.V_far (p := ⟨gb131, 0, none⟩) (Kd.V_mono HL132_0.out (fun k_ hk => (⟨hk, hk.1.2.2.2.2⟩ : _ ∧ k_ ≠ gb131))) (fun _ hk => hk.2) (.slice none 0 0)) (fun _ hk => hk.2) (.bool true)) (fun _ hk => ⟨⟨hk.1.1.1, ⟨hk.1.2, ⟨hk.1.1.2.1, ⟨hk.1.1.2.2.1, hk.1.1.2.2.2.2⟩⟩⟩⟩, hk.1.1.2.2.2.1⟩)) hg hat); have n7_ := Aside0.mk (hb); have n8_ := Aside0.mk (ho); clear HO_4; clear HO_5; clear HO_6; clear HL128_0; clear HL129_0; clear BK131; clear HL132_0; clear HB; clear HO_7; have HO_4 := n0_; have HO_5 := n1_; have HO_6 := n2_; have HL128_0 := n3_; have HL129_0 := n4_; have BK131 := n5_; have HL132_0 := n6_; have HB := n7_; have HO135 := n8_; clear n0_ n1_ n2_ n3_ n4_ n5_ n6_ n7_ n8_; clear ho hb hg hat))
                go_roundg k1
                case measure => have := HK1.out; omega
                case rel => exact ⟨(y133), (wrap64 (x8_1 + 1)), (by first | rfl | (simp; done) | (simp [*]; done)), H', ⟨by have := HK1.out; omega⟩, ⟨by (with_reducible repeat (first | apply Kd.N_alloc | apply Kd.N_drewN | apply Kd.N_drew)); exact Kd.N_mono HO_4.out (fun _ hk => ⟨hk.1.1, ⟨hk.1.2.1, ⟨hk.1.2.2.1, hk.2⟩⟩⟩)⟩, ⟨by (with_reducible repeat (first | apply Kd.R_alloc | apply Kd.R_drewN | apply Kd.R_drew)); exact HO_5.out⟩, ⟨by (with_reducible repeat (first | apply Kd.R_alloc | apply Kd.R_drewN | apply Kd.R_drew)); exact HO_6.out⟩, ⟨by (with_reducible repeat (first | apply Kd.N_alloc | apply Kd.N_drewN | apply Kd.N_drew)); exact Kd.N_mono HO135.out (fun _ hk => ⟨hk.1, ⟨hk.2.1, ⟨hk.2.2.1, hk.2.2.2.1⟩⟩⟩)⟩, ⟨by repeat (first | (with_reducible first | exact HB.out | apply below_alloc | apply pw_below_drewN | apply below_drew1 | refine below_set ?_ GE131.out) | exact HB.out)⟩⟩
              · rw [if_neg c8] at H
                exact absurd H (by simp)
            · rw [if_neg c7] at H
              have c7b0 : decide (255 < ((rd_L1 t119 x8_1).length : Int)) = false := decide_eq_false c7
              have c7b1 : decide (255 < (rd_L1 t119 x8_1).length) = false := decide_eq_false (by omega)
              clear c7
              by_cases c20 : x7_1.length < 2932031007402
              · rw [if_pos c20] at H
                have LMc20 := Aside0.mk c20
                clear c20
                obtain ⟨y136, hy136⟩ : ∃ y_ : List (S61), y_ = (x7_1 ++ [(⟨rd_L1 t119 x8_1, false, ((rd_L1 t119 x8_1).length : Int), IntKind.u64.wrap (rd t120 x8_1)⟩ : S61)]) := ⟨_, rfl⟩
                replace H : (cuneiformref09_All.l0 k1 t119 t120 t121 y136 (wrap64 (x8_1 + 1))) = some (r1, r2) := by first | (rw [hy136]; with_reducible exact H) | (have H2_ := (Option.bind_some _ _).symm.trans H; rw [hy136]; with_reducible exact H2_) | (have H2_ := (Option.bind_some _ _).symm.trans H; with_reducible exact H2_) | with_reducible exact H | (rw [hy136]; exact H) | exact H
                have Ny136 := Aside0.mk hy136
                clear hy136
                have H' := Aside0.mk H
                clear H
                obtain ⟨Ao21, co21, eo21⟩ := Kd.N_slice HO_4.out
                subst eo21
                try go_wp2
                have n0_ := Aside0.mk (Kd.N_drew HO_4.out)
                have n1_ := Aside0.mk (Kd.R_drew HO_5.out)
                have n2_ := Aside0.mk (Kd.R_drew HO_6.out)
                have n3_ := Aside0.mk (Kd.N_drew HO_7.out)
                have n4_ := Aside0.mk (below_drew1 HB.out)
                clear HO_4
                clear HO_5
                clear HO_6
                clear HO_7
                clear HB
                have HO_4 := n0_
                have HO_5 := n1_
                have HO_6 := n2_
                have HO_7 := n3_
                have HB := n4_
                clear n0_ n1_ n2_ n3_ n4_
                have p128 : 0 ≤ (x8_1 : Int) := of_decide_eq_true (by first | (with_reducible assumption) | assumption)
                have q128 : x8_1 < (t119.length : Int) := of_decide_eq_true (by first | (with_reducible assumption) | assumption)
                obtain ⟨ad128, A128_0, c128_0, e128, hx128_0, hl128_0, hi128_0⟩ := at_L1 (Kd.N_reads' HO_4.out).2.2 x8_1 p128 q128
                cases e128
                obtain ⟨ce128, hce128, hMe128, hcc128⟩ := Kd.N_get HO_4.out [] x8_1 p128 (by first | exact q128 | exact of_decide_eq_true (by first | (with_reducible assumption) | assumption) | (have e_ := (Kd.N_reads' HO_4.out).1; omega))
                obtain ⟨ua128_0, uc128_0, rfl, ul128_0, ge128_0⟩ := Kd.FK_slice_open hMe128
                have hv128_0 := hcc128 0 _ rfl
                rw [Nat.add_zero, show ((Kd.slice 5 (Kd.int .u8))).sz = 1 from rfl, Nat.mul_one] at hv128_0
                replace hv128_0 := Option.some.inj (hv128_0.symm.trans hx128_0)
                injection hv128_0 with hva_ hvn_ hvc_
                rw [hva_] at ge128_0
                rw [hvc_] at ul128_0
                have HL128_0 := Aside0.mk (show Kd.V (Kd.int .u8) 5 _ w.heap.size _ _ (rd_L1 t119 x8_1) from Kd.V_mk ul128_0 ge128_0)
                clear hva_ hvn_ hvc_ ge128_0 ul128_0
                clear hcc128 hce128
                have HR128_0 := Aside0.mk hi128_0
                have HC128_0 := Aside0.mk hl128_0
                clear hi128_0 hl128_0
                replace p128 := eq_true p128
                replace q128 := eq_true q128
                have p129 : 0 ≤ (x8_1 : Int) := of_decide_eq_true (by first | (with_reducible assumption) | assumption)
                have q129 : x8_1 < (t119.length : Int) := of_decide_eq_true (by first | (with_reducible assumption) | assumption)
                obtain ⟨ad129, A129_0, c129_0, e129, hx129_0, hl129_0, hi129_0⟩ := at_L1 (Kd.N_reads' HO_4.out).2.2 x8_1 p129 q129
                obtain rfl : ad128 = ad129 := (by injection e129)
                obtain ⟨ce129, hce129, hMe129, hcc129⟩ := Kd.N_get HO_4.out [] x8_1 p129 (by first | exact q129 | exact of_decide_eq_true (by first | (with_reducible assumption) | assumption) | (have e_ := (Kd.N_reads' HO_4.out).1; omega))
                obtain ⟨ua129_0, uc129_0, rfl, ul129_0, ge129_0⟩ := Kd.FK_slice_open hMe129
                have hv129_0 := hcc129 0 _ rfl
                rw [Nat.add_zero, show ((Kd.slice 5 (Kd.int .u8))).sz = 1 from rfl, Nat.mul_one] at hv129_0
                replace hv129_0 := Option.some.inj (hv129_0.symm.trans hx129_0)
                injection hv129_0 with hva_ hvn_ hvc_
                rw [hva_] at ge129_0
                rw [hvc_] at ul129_0
                have HL129_0 := Aside0.mk (show Kd.V (Kd.int .u8) 5 _ w.heap.size _ _ (rd_L1 t119 x8_1) from Kd.V_mk ul129_0 ge129_0)
                clear hva_ hvn_ hvc_ ge129_0 ul129_0
                clear hcc129 hce129
                have HR129_0 := Aside0.mk hi129_0
                have HC129_0 := Aside0.mk hl129_0
                clear hi129_0 hl129_0
                replace p129 := eq_true p129
                replace q129 := eq_true q129
                have ea_ := Option.some.inj (hx128_0.symm.trans hx129_0)
                injection ea_ with ea_ en_ ec_
                subst ea_
                subst ec_
                clear en_
                obtain ⟨Ao23, co23, eo23⟩ := Kd.R_slice HO_5.out
                (first | subst eo23 | (injection eo23 with f1_ f2_ f3_; have f4_ := f1_.symm; have f5_ := f3_.symm; clear f1_ f2_ f3_; subst f4_; subst f5_))
                have p130 : 0 ≤ (x8_1 : Int) := of_decide_eq_true (by first | (with_reducible assumption) | assumption)
                have q130 : x8_1 < (t120.length : Int) := of_decide_eq_true (by first | (with_reducible assumption) | assumption)
                obtain ⟨ad130, e130, hx130_0⟩ := Kd.at_int (Kd.R_reads' HO_5.out).2.2 x8_1 p130 q130
                cases e130
                replace p130 := eq_true p130
                replace q130 := eq_true q130
                refine start_ (n := 17) (S := fun w' => w'.cell? (ad128.add (x8_1).toNat) = some (.slice A128_0 (rd_L1 t119 x8_1).length c128_0) ∧ w'.cell? (ad128.add (x8_1).toNat) = some (.slice A128_0 (rd_L1 t119 x8_1).length c128_0) ∧ w'.cell? (ad130.add (x8_1).toNat) = some (.int .i64 (rd t120 x8_1))) (ds := []) #[false, false, false, false, false, false, false, false, false, false, false, false, false, false, false, false, false] (by kernel_rfl) rfl rfl ⟨hx128_0, hx129_0, hx130_0⟩ (fun hHeld => ?_); refine with_tabW cuneiformref09_All.tab6 cuneiformref09_All.bits6 (fun HT_ HW_ => ?_)
                generalize wr.drew = w22 at HO_4 HO_5 HO_6 HO_7 HB HL128_0 HL129_0 HR128_0 HR129_0 hx128_0 hx129_0 hx130_0 hHeld ⊢
                refine pure_ (i := 0) (N := some 22) (v := ?_) (a' := ?_) #[true, false, false, false, false, false, false, false, false, false, false, false, false, false, false, false, false] rfl rfl (any_of HT_.out (by kernel_rfl)) (fun _ _ _ h => h) (Or.inl ⟨by rfl, ?_⟩) ?_ ?_
                rotate_left
                · intro w'
                  go_simp
                  with_reducible rfl
                rotate_left
                · simp only [Act.put, List.setIfInBounds_toArray, List.set_cons_zero, List.set_cons_succ, i64_w, i32_w]
                  rfl
                refine pure_ (i := 1) (N := some 23) (v := ?_) (a' := ?_) #[true, true, false, false, false, false, false, false, false, false, false, false, false, false, false, false, false] rfl rfl (any_of HT_.out (by kernel_rfl)) (fun _ _ _ h => h) (Or.inl ⟨by rfl, ?_⟩) ?_ ?_
                rotate_left
                · intro w'
                  go_simp
                  with_reducible rfl
                rotate_left
                · simp only [Act.put, List.setIfInBounds_toArray, List.set_cons_zero, List.set_cons_succ, i64_w, i32_w]
                  rfl
                refine pure_ (i := 2) (N := some 24) (v := ?_) (a' := ?_) #[true, true, true, false, false, false, false, false, false, false, false, false, false, false, false, false, false] rfl rfl (any_of HT_.out (by kernel_rfl)) (fun _ _ _ h => h) (Or.inl ⟨by rfl, ?_⟩) ?_ ?_
                rotate_left
                · intro w'
                  go_simp
                  with_reducible rfl
                rotate_left
                · simp only [Act.put, List.setIfInBounds_toArray, List.set_cons_zero, List.set_cons_succ, i64_w, i32_w]
                  rfl
                refine pure_ (i := 4) (N := some 26) (v := ?_) (a' := ?_) #[true, true, true, false, true, false, false, false, false, false, false, false, false, false, false, false, false] rfl rfl (any_of HT_.out (by kernel_rfl)) (fun _ _ _ h => h) (Or.inl ⟨by rfl, ?_⟩) ?_ ?_
                rotate_left
                · intro w'
                  go_simp
                  with_reducible rfl
                rotate_left
                · simp only [Act.put, List.setIfInBounds_toArray, List.set_cons_zero, List.set_cons_succ, i64_w, i32_w]
                  rfl
                refine pure_ (i := 5) (N := some 27) (v := ?_) (a' := ?_) #[true, true, true, false, true, true, false, false, false, false, false, false, false, false, false, false, false] rfl rfl (any_of HT_.out (by kernel_rfl)) (fun _ _ _ h => h) (Or.inl ⟨by rfl, ?_⟩) ?_ ?_
                rotate_left
                · intro w'
                  go_simp
                  with_reducible rfl
                rotate_left
                · simp only [Act.put, List.setIfInBounds_toArray, List.set_cons_zero, List.set_cons_succ, i64_w, i32_w]
                  rfl
                refine pure_ (i := 6) (N := some 28) (v := ?_) (a' := ?_) #[true, true, true, false, true, true, true, false, false, false, false, false, false, false, false, false, false] rfl rfl (any_of HT_.out (by kernel_rfl)) (fun _ _ _ h => h) (Or.inl ⟨by rfl, ?_⟩) ?_ ?_
                rotate_left
                · intro w'
                  go_simp
                  with_reducible rfl
                rotate_left
                · simp only [Act.put, List.setIfInBounds_toArray, List.set_cons_zero, List.set_cons_succ, i64_w, i32_w]
                  rfl
                refine pure_ (i := 9) (N := some 31) (v := ?_) (a' := ?_) #[true, true, true, false, true, true, true, false, false, true, false, false, false, false, false, false, false] rfl rfl (any_of HT_.out (by kernel_rfl)) (fun _ _ _ h => h) (Or.inl ⟨by rfl, ?_⟩) ?_ ?_
                rotate_left
                · intro w'
                  go_simp
                  with_reducible rfl
                rotate_left
                · simp only [Act.put, List.setIfInBounds_toArray, List.set_cons_zero, List.set_cons_succ, i64_w, i32_w]
                  rfl
                refine pure_ (i := 10) (N := some 32) (v := ?_) (a' := ?_) #[true, true, true, false, true, true, true, false, false, true, true, false, false, false, false, false, false] rfl rfl (any_of HT_.out (by kernel_rfl)) (fun _ _ _ h => h) (Or.inl ⟨by rfl, ?_⟩) ?_ ?_
                rotate_left
                · intro w'
                  go_simp
                  with_reducible rfl
                rotate_left
                · simp only [Act.put, List.setIfInBounds_toArray, List.set_cons_zero, List.set_cons_succ, i64_w, i32_w]
                  rfl
                refine pure_ (i := 11) (N := some 33) (v := ?_) (a' := ?_) #[true, true, true, false, true, true, true, false, false, true, true, true, false, false, false, false, false] rfl rfl (any_of HT_.out (by kernel_rfl)) (fun _ _ _ h => h) (Or.inl ⟨by rfl, ?_⟩) ?_ ?_
                rotate_left
                · intro w'
                  go_simp
                  with_reducible rfl
                rotate_left
                · simp only [Act.put, List.setIfInBounds_toArray, List.set_cons_zero, List.set_cons_succ, i64_w, i32_w]
                  rfl
                refine take_ (i := 3) (N := some 25) (v := ?_) (a' := ?_) #[true, true, true, true, true, true, true, false, false, true, true, true, false, false, false, false, false] rfl rfl (take_ofW HT_.out HW_.out (by kernel_rfl)) (fun _ _ _ h => h) (Or.inl ⟨by rfl, ?_⟩) hHeld ?_ ?_
                rotate_left
                · rintro w' ⟨s0, s1, s2⟩
                  go_simp
                  with_reducible rfl
                rotate_left
                · simp only [Act.put, List.setIfInBounds_toArray, List.set_cons_zero, List.set_cons_succ, i64_w, i32_w]
                  rfl
                refine take_ (i := 7) (N := some 29) (v := ?_) (a' := ?_) #[true, true, true, true, true, true, true, true, false, true, true, true, false, false, false, false, false] rfl rfl (take_ofW HT_.out HW_.out (by kernel_rfl)) (fun _ _ _ h => h) (Or.inl ⟨by rfl, ?_⟩) hHeld ?_ ?_
                rotate_left
                · rintro w' ⟨s0, s1, s2⟩
                  go_simp
                  with_reducible rfl
                rotate_left
                · simp only [Act.put, List.setIfInBounds_toArray, List.set_cons_zero, List.set_cons_succ, i64_w, i32_w]
                  rfl
                refine pure_ (i := 8) (N := some 30) (v := ?_) (a' := ?_) #[true, true, true, true, true, true, true, true, true, true, true, true, false, false, false, false, false] rfl rfl (any_of HT_.out (by kernel_rfl)) (fun _ _ _ h => h) (Or.inl ⟨by rfl, ?_⟩) ?_ ?_
                rotate_left
                · intro w'
                  go_simp
                  with_reducible rfl
                rotate_left
                · simp only [Act.put, List.setIfInBounds_toArray, List.set_cons_zero, List.set_cons_succ, i64_w, i32_w]
                  rfl
                refine take_ (i := 12) (N := some 34) (v := ?_) (a' := ?_) #[true, true, true, true, true, true, true, true, true, true, true, true, true, false, false, false, false] rfl rfl (take_ofW HT_.out HW_.out (by kernel_rfl)) (fun _ _ _ h => h) (Or.inl ⟨by rfl, ?_⟩) hHeld ?_ ?_
                rotate_left
                · rintro w' ⟨s0, s1, s2⟩
                  go_simp
                  with_reducible rfl
                rotate_left
                · simp only [Act.put, List.setIfInBounds_toArray, List.set_cons_zero, List.set_cons_succ, i64_w, i32_w]
                  rfl
                refine pure_ (i := 13) (N := some 35) (v := ?_) (a' := ?_) #[true, true, true, true, true, true, true, true, true, true, true, true, true, true, false, false, false] rfl rfl (any_of HT_.out (by kernel_rfl)) (fun _ _ _ h => h) (Or.inl ⟨by rfl, ?_⟩) ?_ ?_
                rotate_left
                · intro w'
                  go_simp
                  with_reducible rfl
                rotate_left
                · simp only [Act.put, List.setIfInBounds_toArray, List.set_cons_zero, List.set_cons_succ, i64_w, i32_w]
                  rfl
                refine pure_ (i := 14) (N := some 36) (v := ?_) (a' := ?_) #[true, true, true, true, true, true, true, true, true, true, true, true, true, true, true, false, false] rfl rfl (any_of HT_.out (by kernel_rfl)) (fun _ _ _ h => h) (Or.inl ⟨by rfl, ?_⟩) ?_ ?_
                rotate_left
                · intro w'
                  go_simp
                  with_reducible rfl
                rotate_left
                · simp only [Act.put, List.setIfInBounds_toArray, List.set_cons_zero, List.set_cons_succ, i64_w, i32_w]
                  rfl
                refine one_ (i := 15) (N := some 9) #[true, true, true, true, true, true, true, true, true, true, true, true, true, true, true, true, false] rfl rfl (one_of HT_.out (by kernel_rfl)) (by decide) (fun K hK => ?_)
                refine box_step ?hg (N := 9) ?hd (cs := #[.slice none 0 0, .bool false, .int .i64 0, .int .u64 0]) (t := 61) ?hr ?_; (case hd => rfl); (case hg => rfl); (case hr => first | (go_simp; done) | (go_simp; rfl))
                intro gb131 hg w24 hbox hb
                have HS0_ := (hb.cell (World.block_lt_of_cell? _ _ (hHeld.1))).trans (hHeld.1)
                have HS1_ := (hb.cell (World.block_lt_of_cell? _ _ (hHeld.2.1))).trans (hHeld.2.1)
                have HS2_ := (hb.cell (World.block_lt_of_cell? _ _ (hHeld.2.2))).trans (hHeld.2.2)
                have n0_ := Aside0.mk (Kd.N_below (Kd.N_elderB (by (with_reducible repeat (first | apply Kd.N_alloc | apply Kd.N_drewN | apply Kd.N_drew)); exact HO_4.out) gb131 (Nat.le_of_eq hg.symm)) hb)
                have n1_ := Aside0.mk (Kd.R_below (by (with_reducible repeat (first | apply Kd.R_alloc | apply Kd.R_drewN | apply Kd.R_drew)); exact HO_5.out) hb)
                have n2_ := Aside0.mk (Kd.R_below (by (with_reducible repeat (first | apply Kd.R_alloc | apply Kd.R_drewN | apply Kd.R_drew)); exact HO_6.out) hb)
                have n3_ := Aside0.mk (Kd.N_below (Kd.N_elderB (by (with_reducible repeat (first | apply Kd.N_alloc | apply Kd.N_drewN | apply Kd.N_drew)); exact HO_7.out) gb131 (Nat.le_of_eq hg.symm)) hb)
                have n4_ := Aside0.mk (Kd.V_below (Kd.V_elderB (by (with_reducible repeat (first | apply Kd.V_alloc | apply Kd.V_drewN | apply Kd.V_drew)); exact HL128_0.out) gb131 (Nat.le_of_eq hg.symm)) hb)
                have n5_ := Aside0.mk (Kd.V_below (Kd.V_elderB (by (with_reducible repeat (first | apply Kd.V_alloc | apply Kd.V_drewN | apply Kd.V_drew)); exact HL129_0.out) gb131 (Nat.le_of_eq hg.symm)) hb)
                have n6_ := Aside0.mk (Kd.C_below (by repeat (first | (with_reducible exact HR128_0.out) | (with_reducible refine Kd.C_alloc ?_ _) | (with_reducible refine Kd.C_drewN ?_ _) | (with_reducible refine Kd.C_drew ?_) | exact HR128_0.out)) hb)
                have n7_ := Aside0.mk (Kd.C_below (by repeat (first | (with_reducible exact HR129_0.out) | (with_reducible refine Kd.C_alloc ?_ _) | (with_reducible refine Kd.C_drewN ?_ _) | (with_reducible refine Kd.C_drew ?_) | exact HR129_0.out)) hb)
                have n8_ := Aside0.mk (below_step (by repeat (first | (with_reducible first | exact HB.out | apply below_alloc | apply pw_below_drewN | apply below_drew1) | exact HB.out)) hb)
                have n9_ := Aside0.mk (hbox)
                have n10_ := Aside0.mk ((by rw [hg]; exact (below_size (by repeat (first | (with_reducible first | exact HB.out | apply below_alloc | apply pw_below_drewN | apply below_drew1) | exact HB.out))) : w.heap.size ≤ gb131))
                have n11_ := Aside0.mk ((by rw [hg]; exact (below_size (by repeat (first | (with_reducible first | exact HB.out | apply below_alloc | apply pw_below_drewN | apply below_drew1) | exact HB.out))) : w.heap.size ≤ gb131))
                clear HO_4
                clear HO_5
                clear HO_6
                clear HO_7
                clear HL128_0
                clear HL129_0
                clear HR128_0
                clear HR129_0
                clear HB
                have HO_4 := n0_
                have HO_5 := n1_
                have HO_6 := n2_
                have HO_7 := n3_
                have HL128_0 := n4_
                have HL129_0 := n5_
                have HR128_0 := n6_
                have HR129_0 := n7_
                have HB := n8_
                have BK131 := n9_
                have GW131 := n10_
                have GE131 := n11_
                clear n0_ n1_ n2_ n3_ n4_ n5_ n6_ n7_ n8_ n9_ n10_ n11_
                clear hb hbox hg
                refine hK.out _ _ ⟨HS0_, HS1_, HS2_⟩ (fun hHeld => ?_)
                clear hK K
                refine norm_ (a' := ?_) ?_ ?_
                rotate_left
                · show Act.put _ (some 9) _ = _
                  simp only [Act.put, List.setIfInBounds_toArray, List.set_cons_zero, List.set_cons_succ, i64_w, i32_w]
                  rfl
                refine one_ (i := 16) (N := none) #[true, true, true, true, true, true, true, true, true, true, true, true, true, true, true, true, true] rfl rfl (one_of HT_.out (by kernel_rfl)) (by decide) (fun K hK => ?_)
                have hs25 : w24.cell? ⟨gb131, 0, none⟩ = some (.slice none 0 0) := (blk_cell BK131.out 0).trans rfl
                have hfs25 := blk_frozen BK131.out 0
                have hs26 : w24.cell? ⟨gb131, 1, none⟩ = some (.bool false) := (blk_cell BK131.out 1).trans rfl
                have hfs26 := blk_frozen BK131.out 1
                have hs27 : w24.cell? ⟨gb131, 2, none⟩ = some (.int .i64 0) := (blk_cell BK131.out 2).trans rfl
                have hfs27 := blk_frozen BK131.out 2
                have hs28 : w24.cell? ⟨gb131, 3, none⟩ = some (.int .u64 0) := (blk_cell BK131.out 3).trans rfl
                have hfs28 := blk_frozen BK131.out 3
                refine skip_ (w1 := ?_) (by rfl) rfl ?_ ?_
                rotate_left
                · go_simp
                  rfl
                refine hK.out _ _ ⟨((cell_far (p := ⟨gb131, _, none⟩) (by first | exact Kd.own_blk (Kd.N_away HO_4.out (fun _ hk => hk.2)) | (rw [add_block]; exact Kd.own_blk (Kd.N_away HO_4.out (fun _ hk => hk.2))) | (show (Addr.add _ _).block ≠ _; rw [add_block]; exact Kd.own_blk (Kd.N_away HO_4.out (fun _ hk => hk.2))) | (dsimp only; exact Kd.own_blk (Kd.N_away HO_4.out (fun _ hk => hk.2)))) _).trans (((cell_far (p := ⟨gb131, _, none⟩) (by first | exact Kd.own_blk (Kd.N_away HO_4.out (fun _ hk => hk.2)) | (rw [add_block]; exact Kd.own_blk (Kd.N_away HO_4.out (fun _ hk => hk.2))) | (show (Addr.add _ _).block ≠ _; rw [add_block]; exact Kd.own_blk (Kd.N_away HO_4.out (fun _ hk => hk.2))) | (dsimp only; exact Kd.own_blk (Kd.N_away HO_4.out (fun _ hk => hk.2)))) _).trans (((cell_far (p := ⟨gb131, _, none⟩) (by first | exact Kd.own_blk (Kd.N_away HO_4.out (fun _ hk => hk.2)) | (rw [add_block]; exact Kd.own_blk (Kd.N_away HO_4.out (fun _ hk => hk.2))) | (show (Addr.add _ _).block ≠ _; rw [add_block]; exact Kd.own_blk (Kd.N_away HO_4.out (fun _ hk => hk.2))) | (dsimp only; exact Kd.own_blk (Kd.N_away HO_4.out (fun _ hk => hk.2)))) _).trans (((cell_far (p := ⟨gb131, _, none⟩) (by first | exact Kd.own_blk (Kd.N_away HO_4.out (fun _ hk => hk.2)) | (rw [add_block]; exact Kd.own_blk (Kd.N_away HO_4.out (fun _ hk => hk.2))) | (show (Addr.add _ _).block ≠ _; rw [add_block]; exact Kd.own_blk (Kd.N_away HO_4.out (fun _ hk => hk.2))) | (dsimp only; exact Kd.own_blk (Kd.N_away HO_4.out (fun _ hk => hk.2)))) _).trans (hHeld.1)))))))), ((cell_far (p := ⟨gb131, _, none⟩) (by first | exact Kd.own_blk (Kd.N_away HO_4.out (fun _ hk => hk.2)) | (rw [add_block]; exact Kd.own_blk (Kd.N_away HO_4.out (fun _ hk => hk.2))) | (show (Addr.add _ _).block ≠ _; rw [add_block]; exact Kd.own_blk (Kd.N_away HO_4.out (fun _ hk => hk.2))) | (dsimp only; exact Kd.own_blk (Kd.N_away HO_4.out (fun _ hk => hk.2)))) _).trans (((cell_far (p := ⟨gb131, _, none⟩) (by first | exact Kd.own_blk (Kd.N_away HO_4.out (fun _ hk => hk.2)) | (rw [add_block]; exact Kd.own_blk (Kd.N_away HO_4.out (fun _ hk => hk.2))) | (show (Addr.add _ _).block ≠ _; rw [add_block]; exact Kd.own_blk (Kd.N_away HO_4.out (fun _ hk => hk.2))) | (dsimp only; exact Kd.own_blk (Kd.N_away HO_4.out (fun _ hk => hk.2)))) _).trans (((cell_far (p := ⟨gb131, _, none⟩) (by first | exact Kd.own_blk (Kd.N_away HO_4.out (fun _ hk => hk.2)) | (rw [add_block]; exact Kd.own_blk (Kd.N_away HO_4.out (fun _ hk => hk.2))) | (show (Addr.add _ _).block ≠ _; rw [add_block]; exact Kd.own_blk (Kd.N_away HO_4.out (fun _ hk => hk.2))) | (dsimp only; exact Kd.own_blk (Kd.N_away HO_4.out (fun _ hk => hk.2)))) _).trans (((cell_far (p := ⟨gb131, _, none⟩) (by first | exact Kd.own_blk (Kd.N_away HO_4.out (fun _ hk => hk.2)) | (rw [add_block]; exact Kd.own_blk (Kd.N_away HO_4.out (fun _ hk => hk.2))) | (show (Addr.add _ _).block ≠ _; rw [add_block]; exact Kd.own_blk (Kd.N_away HO_4.out (fun _ hk => hk.2))) | (dsimp only; exact Kd.own_blk (Kd.N_away HO_4.out (fun _ hk => hk.2)))) _).trans (hHeld.2.1)))))))), ((cell_far (p := ⟨gb131, _, none⟩) (by first | exact Kd.own_blk (Kd.R_ne HO_5.out BK131.out (by decide)) | (rw [add_block]; exact Kd.own_blk (Kd.R_ne HO_5.out BK131.out (by decide))) | (show (Addr.add _ _).block ≠ _; rw [add_block]; exact Kd.own_blk (Kd.R_ne HO_5.out BK131.out (by decide))) | (dsimp only; exact Kd.own_blk (Kd.R_ne HO_5.out BK131.out (by decide)))) _).trans (((cell_far (p := ⟨gb131, _, none⟩) (by first | exact Kd.own_blk (Kd.R_ne HO_5.out BK131.out (by decide)) | (rw [add_block]; exact Kd.own_blk (Kd.R_ne HO_5.out BK131.out (by decide))) | (show (Addr.add _ _).block ≠ _; rw [add_block]; exact Kd.own_blk (Kd.R_ne HO_5.out BK131.out (by decide))) | (dsimp only; exact Kd.own_blk (Kd.R_ne HO_5.out BK131.out (by decide)))) _).trans (((cell_far (p := ⟨gb131, _, none⟩) (by first | exact Kd.own_blk (Kd.R_ne HO_5.out BK131.out (by decide)) | (rw [add_block]; exact Kd.own_blk (Kd.R_ne HO_5.out BK131.out (by decide))) | (show (Addr.add _ _).block ≠ _; rw [add_block]; exact Kd.own_blk (Kd.R_ne HO_5.out BK131.out (by decide))) | (dsimp only; exact Kd.own_blk (Kd.R_ne HO_5.out BK131.out (by decide)))) _).trans (((cell_far (p := ⟨gb131, _, none⟩) (by first | exact Kd.own_blk (Kd.R_ne HO_5.out BK131.out (by decide)) | (rw [add_block]; exact Kd.own_blk (Kd.R_ne HO_5.out BK131.out (by decide))) | (show (Addr.add _ _).block ≠ _; rw [add_block]; exact Kd.own_blk (Kd.R_ne HO_5.out BK131.out (by decide))) | (dsimp only; exact Kd.own_blk (Kd.R_ne HO_5.out BK131.out (by decide)))) _).trans (hHeld.2.2))))))))⟩ (fun hHeld => ?_)
                clear hK K
                refine done_ (done_of HT_.out (by kernel_rfl)) ?_
                have n0_ : Aside0 (Kd.N (Kd.slice 5 (Kd.int .u8)) 22 ((((w24.setCell ⟨gb131, 0, none⟩ (.slice A128_0 (rd_L1 t119 x8_1).length c128_0)).setCell ⟨gb131, 1, none⟩ (.bool false)).setCell ⟨gb131, 2, none⟩ (.int .i64 ((rd_L1 t119 x8_1).length : Int))).setCell ⟨gb131, 3, none⟩ (.int .u64 (IntKind.u64.wrap (rd t120 x8_1)))) w.heap.size (fun k_ => (w.heap.size ≤ k_) ∧ some k_ ≠ (.slice (some ad130) t120.length co23 : Value).ownBlock ∧ some k_ ≠ (v126 : Value).ownBlock ∧ some k_ ≠ (u7 : Value).ownBlock ∧ k_ ≠ gb131) (.slice (some ad128) t119.length co21) t119) := ⟨by (with_reducible repeat (first | apply Kd.N_alloc | apply Kd.N_drewN | apply Kd.N_drew)); exact Kd.N_mono (Kd.N_far (p := ⟨gb131, 3, none⟩) (Kd.N_far (p := ⟨gb131, 2, none⟩) (Kd.N_far (p := ⟨gb131, 1, none⟩) (Kd.N_far (p := ⟨gb131, 0, none⟩) (Kd.N_mono HO_4.out (fun k_ hk => (⟨hk, hk.2⟩ : _ ∧ k_ ≠ gb131))) (fun _ hk => hk.2) (.slice A128_0 (rd_L1 t119 x8_1).length c128_0)) (fun _ hk => hk.2) (.bool false)) (fun _ hk => hk.2) (.int .i64 ((rd_L1 t119 x8_1).length : Int))) (fun _ hk => hk.2) (.int .u64 (IntKind.u64.wrap (rd t120 x8_1)))) (fun _ hk => ⟨hk.1.1.1, ⟨hk.1.1.2.1, ⟨hk.1.1.2.2.1, ⟨hk.1.1.2.2.2, hk.1.2⟩⟩⟩⟩)⟩
                have n1_ : Aside0 (Kd.R (Kd.int .i64) 3 ((((w24.setCell ⟨gb131, 0, none⟩ (.slice A128_0 (rd_L1 t119 x8_1).length c128_0)).setCell ⟨gb131, 1, none⟩ (.bool false)).setCell ⟨gb131, 2, none⟩ (.int .i64 ((rd_L1 t119 x8_1).length : Int))).setCell ⟨gb131, 3, none⟩ (.int .u64 (IntKind.u64.wrap (rd t120 x8_1)))) w.heap.size (fun k_ => (w.heap.size ≤ k_)) (.slice (some ad130) t120.length co23) t120) := ⟨by (with_reducible repeat (first | apply Kd.R_alloc | apply Kd.R_drewN | apply Kd.R_drew)); exact Kd.R_mono (Kd.R_far (p := ⟨gb131, 3, none⟩) (Kd.R_far (p := ⟨gb131, 2, none⟩) (Kd.R_far (p := ⟨gb131, 1, none⟩) (Kd.R_far (p := ⟨gb131, 0, none⟩) (Kd.R_types HO_5.out BK131.out (by decide)) (fun _ hk => hk.2) (.slice A128_0 (rd_L1 t119 x8_1).length c128_0)) (fun _ hk => hk.2) (.bool false)) (fun _ hk => hk.2) (.int .i64 ((rd_L1 t119 x8_1).length : Int))) (fun _ hk => hk.2) (.int .u64 (IntKind.u64.wrap (rd t120 x8_1)))) (fun _ hk => hk.1)⟩
                have n2_ : Aside0 (Kd.R (Kd.int .u8) 5 ((((w24.setCell ⟨gb131, 0, none⟩ (.slice A128_0 (rd_L1 t119 x8_1).length c128_0)).setCell ⟨gb131, 1, none⟩ (.bool false)).setCell ⟨gb131, 2, none⟩ (.int .i64 ((rd_L1 t119 x8_1).length : Int))).setCell ⟨gb131, 3, none⟩ (.int .u64 (IntKind.u64.wrap (rd t120 x8_1)))) w.heap.size (fun k_ => (w.heap.size ≤ k_)) v126 t121) := ⟨by (with_reducible repeat (first | apply Kd.R_alloc | apply Kd.R_drewN | apply Kd.R_drew)); exact Kd.R_mono (Kd.R_far (p := ⟨gb131, 3, none⟩) (Kd.R_far (p := ⟨gb131, 2, none⟩) (Kd.R_far (p := ⟨gb131, 1, none⟩) (Kd.R_far (p := ⟨gb131, 0, none⟩) (Kd.R_types HO_6.out BK131.out (by decide)) (fun _ hk => hk.2) (.slice A128_0 (rd_L1 t119 x8_1).length c128_0)) (fun _ hk => hk.2) (.bool false)) (fun _ hk => hk.2) (.int .i64 ((rd_L1 t119 x8_1).length : Int))) (fun _ hk => hk.2) (.int .u64 (IntKind.u64.wrap (rd t120 x8_1)))) (fun _ hk => hk.1)⟩
                have n3_ : Aside0 (Kd.N k61 61 ((((w24.setCell ⟨gb131, 0, none⟩ (.slice A128_0 (rd_L1 t119 x8_1).length c128_0)).setCell ⟨gb131, 1, none⟩ (.bool false)).setCell ⟨gb131, 2, none⟩ (.int .i64 ((rd_L1 t119 x8_1).length : Int))).setCell ⟨gb131, 3, none⟩ (.int .u64 (IntKind.u64.wrap (rd t120 x8_1)))) w.heap.size (fun k_ => (w.heap.size ≤ k_) ∧ some k_ ≠ (.slice (some ad128) t119.length co21 : Value).ownBlock ∧ some k_ ≠ (.slice (some ad130) t120.length co23 : Value).ownBlock ∧ some k_ ≠ (v126 : Value).ownBlock ∧ k_ ≠ gb131) u7 x7_1) := ⟨by (with_reducible repeat (first | apply Kd.N_alloc | apply Kd.N_drewN | apply Kd.N_drew)); exact Kd.N_mono (Kd.N_far (p := ⟨gb131, 3, none⟩) (Kd.N_far (p := ⟨gb131, 2, none⟩) (Kd.N_far (p := ⟨gb131, 1, none⟩) (Kd.N_far (p := ⟨gb131, 0, none⟩) (Kd.N_mono HO_7.out (fun k_ hk => (⟨hk, hk.2⟩ : _ ∧ k_ ≠ gb131))) (fun _ hk => hk.2) (.slice A128_0 (rd_L1 t119 x8_1).length c128_0)) (fun _ hk => hk.2) (.bool false)) (fun _ hk => hk.2) (.int .i64 ((rd_L1 t119 x8_1).length : Int))) (fun _ hk => hk.2) (.int .u64 (IntKind.u64.wrap (rd t120 x8_1)))) (fun _ hk => ⟨hk.1.1.1, ⟨hk.1.1.2.1, ⟨hk.1.1.2.2.1, ⟨hk.1.1.2.2.2, hk.1.2⟩⟩⟩⟩)⟩
                have n4_ : Aside0 (Kd.V (Kd.int .u8) 5 ((((w24.setCell ⟨gb131, 0, none⟩ (.slice A128_0 (rd_L1 t119 x8_1).length c128_0)).setCell ⟨gb131, 1, none⟩ (.bool false)).setCell ⟨gb131, 2, none⟩ (.int .i64 ((rd_L1 t119 x8_1).length : Int))).setCell ⟨gb131, 3, none⟩ (.int .u64 (IntKind.u64.wrap (rd t120 x8_1)))) w.heap.size (fun k_ => (w.heap.size ≤ k_) ∧ some k_ ≠ (.slice (some ad128) t119.length co21 : Value).ownBlock ∧ some k_ ≠ (.slice (some ad130) t120.length co23 : Value).ownBlock ∧ some k_ ≠ (v126 : Value).ownBlock ∧ some k_ ≠ (u7 : Value).ownBlock ∧ k_ ≠ gb131) (.slice A128_0 (rd_L1 t119 x8_1).length c128_0) (rd_L1 t119 x8_1)) := ⟨by (with_reducible repeat (first | apply Kd.V_alloc | apply Kd.V_drewN | apply Kd.V_drew)); exact Kd.V_mono (Kd.V_far (p := ⟨gb131, 3, none⟩) (Kd.V_far (p := ⟨gb131, 2, none⟩) (Kd.V_far (p := ⟨gb131, 1, none⟩) (Kd.V_far (p := ⟨gb131, 0, none⟩) (Kd.V_mono HL128_0.out (fun k_ hk => (⟨hk, hk.2⟩ : _ ∧ k_ ≠ gb131))) (fun _ hk => hk.2) (.slice A128_0 (rd_L1 t119 x8_1).length c128_0)) (fun _ hk => hk.2) (.bool false)) (fun _ hk => hk.2) (.int .i64 ((rd_L1 t119 x8_1).length : Int))) (fun _ hk => hk.2) (.int .u64 (IntKind.u64.wrap (rd t120 x8_1)))) (fun _ hk => ⟨hk.1.1.1.1, ⟨hk.1.1.2, ⟨hk.1.1.1.2.1, ⟨hk.1.1.1.2.2.1, ⟨hk.1.1.1.2.2.2, hk.1.2⟩⟩⟩⟩⟩)⟩
                have n5_ : Aside0 (Kd.V (Kd.int .u8) 5 ((((w24.setCell ⟨gb131, 0, none⟩ (.slice A128_0 (rd_L1 t119 x8_1).length c128_0)).setCell ⟨gb131, 1, none⟩ (.bool false)).setCell ⟨gb131, 2, none⟩ (.int .i64 ((rd_L1 t119 x8_1).length : Int))).setCell ⟨gb131, 3, none⟩ (.int .u64 (IntKind.u64.wrap (rd t120 x8_1)))) w.heap.size (fun k_ => (w.heap.size ≤ k_) ∧ some k_ ≠ (.slice (some ad128) t119.length co21 : Value).ownBlock ∧ some k_ ≠ (.slice (some ad130) t120.length co23 : Value).ownBlock ∧ some k_ ≠ (v126 : Value).ownBlock ∧ some k_ ≠ (u7 : Value).ownBlock ∧ k_ ≠ gb131) (.slice A128_0 (rd_L1 t119 x8_1).length c128_0) (rd_L1 t119 x8_1)) := ⟨by (with_reducible repeat (first | apply Kd.V_alloc | apply Kd.V_drewN | apply Kd.V_drew)); exact Kd.V_mono (Kd.V_far (p := ⟨gb131, 3, none⟩) (Kd.V_far (p := ⟨gb131, 2, none⟩) (Kd.V_far (p := ⟨gb131, 1, none⟩) (Kd.V_far (p := ⟨gb131, 0, none⟩) (Kd.V_mono HL129_0.out (fun k_ hk => (⟨hk, hk.2⟩ : _ ∧ k_ ≠ gb131))) (fun _ hk => hk.2) (.slice A128_0 (rd_L1 t119 x8_1).length c128_0)) (fun _ hk => hk.2) (.bool false)) (fun _ hk => hk.2) (.int .i64 ((rd_L1 t119 x8_1).length : Int))) (fun _ hk => hk.2) (.int .u64 (IntKind.u64.wrap (rd t120 x8_1)))) (fun _ hk => ⟨hk.1.1.1.1, ⟨hk.1.1.2, ⟨hk.1.1.1.2.1, ⟨hk.1.1.1.2.2.1, ⟨hk.1.1.1.2.2.2, hk.1.2⟩⟩⟩⟩⟩)⟩
                have n6_ : Aside0 (((((w24.setCell ⟨gb131, 0, none⟩ (.slice A128_0 (rd_L1 t119 x8_1).length c128_0)).setCell ⟨gb131, 1, none⟩ (.bool false)).setCell ⟨gb131, 2, none⟩ (.int .i64 ((rd_L1 t119 x8_1).length : Int))).setCell ⟨gb131, 3, none⟩ (.int .u64 (IntKind.u64.wrap (rd t120 x8_1)))).heap[gb131]? = some (.cells #[.slice A128_0 (rd_L1 t119 x8_1).length c128_0, .bool false, .int .i64 ((rd_L1 t119 x8_1).length : Int), .int .u64 (IntKind.u64.wrap (rd t120 x8_1))] 61 (0, 0))) := ⟨by (with_reducible repeat (first | refine blk_drewN ?_ _ | refine blk_drew ?_ | refine blk_alloc ?_ _)); refine blk_put (cs := #[.slice A128_0 (rd_L1 t119 x8_1).length c128_0, .bool false, .int .i64 ((rd_L1 t119 x8_1).length : Int), .int .u64 0]) ?_ 3 _ rfl; (with_reducible repeat (first | refine blk_drewN ?_ _ | refine blk_drew ?_ | refine blk_alloc ?_ _)); refine blk_put (cs := #[.slice A128_0 (rd_L1 t119 x8_1).length c128_0, .bool false, .int .i64 0, .int .u64 0]) ?_ 2 _ rfl; (with_reducible repeat (first | refine blk_drewN ?_ _ | refine blk_drew ?_ | refine blk_alloc ?_ _)); refine blk_put (cs := #[.slice A128_0 (rd_L1 t119 x8_1).length c128_0, .bool false, .int .i64 0, .int .u64 0]) ?_ 1 _ rfl; (with_reducible repeat (first | refine blk_drewN ?_ _ | refine blk_drew ?_ | refine blk_alloc ?_ _)); refine blk_put (cs := #[.slice none 0 0, .bool false, .int .i64 0, .int .u64 0]) ?_ 0 _ rfl; (with_reducible repeat (first | refine blk_drewN ?_ _ | refine blk_drew ?_ | refine blk_alloc ?_ _)); exact BK131.out⟩
                have n7_ : Aside0 (Below w.heap.size w ((((w24.setCell ⟨gb131, 0, none⟩ (.slice A128_0 (rd_L1 t119 x8_1).length c128_0)).setCell ⟨gb131, 1, none⟩ (.bool false)).setCell ⟨gb131, 2, none⟩ (.int .i64 ((rd_L1 t119 x8_1).length : Int))).setCell ⟨gb131, 3, none⟩ (.int .u64 (IntKind.u64.wrap (rd t120 x8_1))))) := ⟨by repeat (first | (with_reducible first | exact HB.out | apply below_alloc | apply pw_below_drewN | apply below_drew1 | refine below_set ?_ GE131.out) | exact HB.out)⟩
                (try clear HO_4)
                (try clear HO_5)
                (try clear HO_6)
                (try clear HO_7)
                (try clear HL128_0)
                (try clear HL129_0)
                (try clear BK131)
                (try clear HB)
                generalize ((((w24.setCell ⟨gb131, 0, none⟩ (.slice A128_0 (rd_L1 t119 x8_1).length c128_0)).setCell ⟨gb131, 1, none⟩ (.bool false)).setCell ⟨gb131, 2, none⟩ (.int .i64 ((rd_L1 t119 x8_1).length : Int))).setCell ⟨gb131, 3, none⟩ (.int .u64 (IntKind.u64.wrap (rd t120 x8_1)))) = w29 at n0_ n1_ n2_ n3_ n4_ n5_ n6_ n7_ ⊢
                have HO_4 := n0_
                have HO_5 := n1_
                have HO_6 := n2_
                have HO_7 := n3_
                have HL128_0 := n4_
                have HL129_0 := n5_
                have BK131 := n6_
                have HB := n7_
                clear n0_ n1_ n2_ n3_ n4_ n5_ n6_ n7_
                have p132 : 0 ≤ (x8_1 : Int) := of_decide_eq_true (by first | (with_reducible assumption) | assumption)
                have q132 : x8_1 < (t119.length : Int) := of_decide_eq_true (by first | (with_reducible assumption) | assumption)
                obtain ⟨ad132, A132_0, c132_0, e132, hx132_0, hl132_0, hi132_0⟩ := at_L1 (Kd.N_reads' HO_4.out).2.2 x8_1 p132 q132
                obtain rfl : ad128 = ad132 := (by injection e132)
                obtain ⟨ce132, hce132, hMe132, hcc132⟩ := Kd.N_get HO_4.out [] x8_1 p132 (by first | exact q132 | exact of_decide_eq_true (by first | (with_reducible assumption) | assumption) | (have e_ := (Kd.N_reads' HO_4.out).1; omega))
                obtain ⟨ua132_0, uc132_0, rfl, ul132_0, ge132_0⟩ := Kd.FK_slice_open hMe132
                have hv132_0 := hcc132 0 _ rfl
                rw [Nat.add_zero, show ((Kd.slice 5 (Kd.int .u8))).sz = 1 from rfl, Nat.mul_one] at hv132_0
                replace hv132_0 := Option.some.inj (hv132_0.symm.trans hx132_0)
                injection hv132_0 with hva_ hvn_ hvc_
                rw [hva_] at ge132_0
                rw [hvc_] at ul132_0
                have HL132_0 := Aside0.mk (show Kd.V (Kd.int .u8) 5 _ w.heap.size _ _ (rd_L1 t119 x8_1) from Kd.V_mk ul132_0 ge132_0)
                clear hva_ hvn_ hvc_ ge132_0 ul132_0
                clear hcc132 hce132
                have HR132_0 := Aside0.mk hi132_0
                have HC132_0 := Aside0.mk hl132_0
                clear hi132_0 hl132_0
                replace p132 := eq_true p132
                replace q132 := eq_true q132
                have hcz30_0 : w29.cell? ⟨gb131, 0, none⟩ = some (.slice A128_0 (rd_L1 t119 x8_1).length c128_0) := (blk_cell BK131.out 0).trans rfl
                have hcz30_1 : w29.cell? ⟨gb131, 1, none⟩ = some (.bool false) := (blk_cell BK131.out 1).trans rfl
                have hcz30_2 : w29.cell? ⟨gb131, 2, none⟩ = some (.int .i64 ((rd_L1 t119 x8_1).length : Int)) := (blk_cell BK131.out 2).trans rfl
                have hcz30_3 : w29.cell? ⟨gb131, 3, none⟩ = some (.int .u64 (IntKind.u64.wrap (rd t120 x8_1))) := (blk_cell BK131.out 3).trans rfl
                have hfz30_0 := blk_frozen BK131.out 0
                have hfz30_1 := blk_frozen BK131.out 1
                have hfz30_2 := blk_frozen BK131.out 2
                have hfz30_3 := blk_frozen BK131.out 3
                try go_wp2_with (first | ((with_reducible refine gate_builtin (b := .append) (xs := #[.tmp 45, .tmp 47]) rfl ?_); at_builtin; refine Kd.N_append k61 (w0 := w) w.heap.size rfl (.tmp 45) (.tmp 47) 43 61 (.agg #[(.slice none 0 0), (.bool false), (.int .i64 0), (.int .u64 0)]) 48 rfl Try.underlying43 info61 rfl (by decide) (by omega) u7 x7_1 (⟨rd_L1 t119 x8_1, false, ((rd_L1 t119 x8_1).length : Int), IntKind.u64.wrap (rd t120 x8_1)⟩ : S61) [.slice A128_0 (rd_L1 t119 x8_1).length c128_0, .bool false, .int .i64 ((rd_L1 t119 x8_1).length : Int), .int .u64 (IntKind.u64.wrap (rd t120 x8_1))] (fun k_ => (w.heap.size ≤ k_) ∧ some k_ ≠ (.slice (some ad128) t119.length co21 : Value).ownBlock ∧ some k_ ≠ (.slice (some ad130) t120.length co23 : Value).ownBlock ∧ some k_ ≠ (v126 : Value).ownBlock ∧ k_ ≠ gb131) (fun k_ => ((fun k_ => (w.heap.size ≤ k_) ∧ some k_ ≠ (.slice (some ad128) t119.length co21 : Value).ownBlock ∧ some k_ ≠ (.slice (some ad130) t120.length co23 : Value).ownBlock ∧ some k_ ≠ (v126 : Value).ownBlock ∧ k_ ≠ gb131)) k_ ∧ some k_ ≠ (u7 : Value).ownBlock) rfl rfl ?aP (fun _ hk => hk) ?aF ?aO ?aB ?aS ?aL ?_; (case aP => exact (k61_mkF _ _ (⟨rd_L1 t119 x8_1, false, ((rd_L1 t119 x8_1).length : Int), IntKind.u64.wrap (rd t120 x8_1)⟩ : S61) (Kd.V_reads' (Kd.V_mono (ok' := (fun k_ => ((fun k_ => (w.heap.size ≤ k_) ∧ some k_ ≠ (.slice (some ad128) t119.length co21 : Value).ownBlock ∧ some k_ ≠ (.slice (some ad130) t120.length co23 : Value).ownBlock ∧ some k_ ≠ (v126 : Value).ownBlock ∧ k_ ≠ gb131)) k_ ∧ some k_ ≠ (u7 : Value).ownBlock)) (HL128_0.out) (fun k_ hk => ⟨⟨hk.1, ⟨hk.2.1, ⟨hk.2.2.1, ⟨hk.2.2.2.1, hk.2.2.2.2.2⟩⟩⟩⟩, hk.2.2.2.2.1⟩))).2.1 (Kd.V_F (Kd.V_mono (ok' := (fun k_ => ((fun k_ => (w.heap.size ≤ k_) ∧ some k_ ≠ (.slice (some ad128) t119.length co21 : Value).ownBlock ∧ some k_ ≠ (.slice (some ad130) t120.length co23 : Value).ownBlock ∧ some k_ ≠ (v126 : Value).ownBlock ∧ k_ ≠ gb131)) k_ ∧ some k_ ≠ (u7 : Value).ownBlock)) (HL128_0.out) (fun k_ hk => ⟨⟨hk.1, ⟨hk.2.1, ⟨hk.2.2.1, ⟨hk.2.2.2.1, hk.2.2.2.2.2⟩⟩⟩⟩, hk.2.2.2.2.1⟩))))); (case aB => exact (by repeat (first | (with_reducible first | exact HB.out | apply below_alloc | apply pw_below_drewN | apply below_drew1 | refine below_set ?_ GE131.out) | exact HB.out))); (case aF => exact (fun k_ hk => ⟨(Nat.le_trans (below_size (by repeat (first | (with_reducible first | exact HB.out | apply below_alloc | apply pw_below_drewN | apply below_drew1 | refine below_set ?_ GE131.out) | exact HB.out))) hk), Kd.fresh' (Kd.N_lt (by (with_reducible repeat (first | apply Kd.N_alloc | apply Kd.N_drewN | apply Kd.N_drew)); exact HO_4.out)) k_ hk, Kd.fresh' (Kd.R_lt (by (with_reducible repeat (first | apply Kd.R_alloc | apply Kd.R_drewN | apply Kd.R_drew)); exact HO_5.out)) k_ hk, Kd.fresh' (Kd.R_lt (by (with_reducible repeat (first | apply Kd.R_alloc | apply Kd.R_drewN | apply Kd.R_drew)); exact HO_6.out)) k_ hk, Kd.freshB (g := gb131) (o := .cells #[.slice A128_0 (rd_L1 t119 x8_1).length c128_0, .bool false, .int .i64 ((rd_L1 t119 x8_1).length : Int), .int .u64 (IntKind.u64.wrap (rd t120 x8_1))] 61 (0, 0)) (by (with_reducible repeat (first | refine blk_drewN ?_ _ | refine blk_drew ?_ | refine blk_alloc ?_ _)); exact BK131.out) k_ hk⟩)); (case aO => exact (by (with_reducible repeat (first | apply Kd.N_alloc | apply Kd.N_drewN | apply Kd.N_drew)); exact HO_7.out)); (case aS => exact (below_size (by repeat (first | (with_reducible first | exact HB.out | apply below_alloc | apply pw_below_drewN | apply below_drew1 | refine below_set ?_ GE131.out) | exact HB.out)))); (case aL => have := LMc20.out; omega); intro v137 w31 ho hb hg hat; rw [← Ny136.out] at ho; have n0_ := Aside0.mk (Kd.N_afterv (ok := (fun k_ => (w.heap.size ≤ k_) ∧ some k_ ≠ (.slice (some ad130) t120.length co23 : Value).ownBlock ∧ some k_ ≠ (v126 : Value).ownBlock ∧ k_ ≠ gb131)) (by (with_reducible repeat (first | apply Kd.N_alloc | apply Kd.N_drewN | apply Kd.N_drew)); exact Kd.N_mono HO_4.out (fun _ hk => ⟨⟨hk.1, ⟨hk.2.1, ⟨hk.2.2.1, hk.2.2.2.2⟩⟩⟩, hk.2.2.2.1⟩)) hg hat); have n1_ := Aside0.mk (Kd.R_over' (by (with_reducible repeat (first | apply Kd.R_alloc | apply Kd.R_drewN | apply Kd.R_drew)); exact HO_5.out) (Kd.N_typed (by (with_reducible repeat (first | apply Kd.N_alloc | apply Kd.N_drewN | apply Kd.N_drew)); exact HO_7.out)) (by decide) hg); have n2_ := Aside0.mk (Kd.R_over' (by (with_reducible repeat (first | apply Kd.R_alloc | apply Kd.R_drewN | apply Kd.R_drew)); exact HO_6.out) (Kd.N_typed (by (with_reducible repeat (first | apply Kd.N_alloc | apply Kd.N_drewN | apply Kd.N_drew)); exact HO_7.out)) (by decide) hg); have n3_ := Aside0.mk (Kd.V_afterv (ok := (fun k_ => (w.heap.size ≤ k_) ∧ some k_ ≠ (.slice (some ad128) t119.length co21 : Value).ownBlock ∧ some k_ ≠ (.slice (some ad130) t120.length co23 : Value).ownBlock ∧ some k_ ≠ (v126 : Value).ownBlock ∧ k_ ≠ gb131)) (by (with_reducible repeat (first | apply Kd.V_alloc | apply Kd.V_drewN | apply Kd.V_drew)); exact Kd.V_mono HL128_0.out (fun _ hk => ⟨⟨hk.1, ⟨hk.2.1, ⟨hk.2.2.1, ⟨hk.2.2.2.1, hk.2.2.2.2.2⟩⟩⟩⟩, hk.2.2.2.2.1⟩)) hg hat); have n4_ := Aside0.mk (Kd.V_afterv (ok := (fun k_ => (w.heap.size ≤ k_) ∧ some k_ ≠ (.slice (some ad128) t119.length co21 : Value).ownBlock ∧ some k_ ≠ (.slice (some ad130) t120.length co23 : Value).ownBlock ∧ some k_ ≠ (v126 : Value).ownBlock ∧ k_ ≠ gb131)) (by (with_reducible repeat (first | apply Kd.V_alloc | apply Kd.V_drewN | apply Kd.V_drew)); exact Kd.V_mono HL129_0.out (fun _ hk => ⟨⟨hk.1, ⟨hk.2.1, ⟨hk.2.2.1, ⟨hk.2.2.2.1, hk.2.2.2.2.2⟩⟩⟩⟩, hk.2.2.2.2.1⟩)) hg hat); have n5_ := Aside0.mk (blk_grown (g := gb131) (o := .cells #[.slice A128_0 (rd_L1 t119 x8_1).length c128_0, .bool false, .int .i64 ((rd_L1 t119 x8_1).length : Int), .int .u64 (IntKind.u64.wrap (rd t120 x8_1))] 61 (0, 0)) (by (with_reducible repeat (first | refine blk_drewN ?_ _ | refine blk_drew ?_ | refine blk_alloc ?_ _)); exact BK131.out) hg (Kd.N_away HO_7.out (fun _ hk => hk.2.2.2.2))); have n6_ := Aside0.mk (Kd.V_afterv (ok := (fun k_ => (w.heap.size ≤ k_) ∧ some k_ ≠ (.slice (some ad128) t119.length co21 : Value).ownBlock ∧ some k_ ≠ (.slice (some ad130) t120.length co23 : Value).ownBlock ∧ some k_ ≠ (v126 : Value).ownBlock ∧ k_ ≠ gb131)) (by (with_reducible repeat (first | apply Kd.V_alloc | apply Kd.V_drewN | apply Kd.V_drew)); exact Kd.V_mono HL132_0.out (fun _ hk => ⟨⟨hk.1.1, ⟨hk.2, ⟨hk.1.2.1, ⟨hk.1.2.2.1, hk.1.2.2.2.2⟩⟩⟩⟩, hk.1.2.2.2.1⟩)) hg hat); have n7_ := Aside0.mk (hb); have n8_ := Aside0.mk (ho); clear HO_4; clear HO_5; clear HO_6; clear HL128_0; clear HL129_0; clear BK131; clear HL132_0; clear HB; clear HO_7; have HO_4 := n0_; have HO_5 := n1_; have HO_6 := n2_; have HL128_0 := n3_; have HL129_0 := n4_; have BK131 := n5_; have HL132_0 := n6_; have HB := n7_; have HO138 := n8_; clear n0_ n1_ n2_ n3_ n4_ n5_ n6_ n7_ n8_; clear ho hb hg hat))
                go_roundg k1
                case measure => have := HK1.out; omega
                case rel => exact ⟨(y136), (wrap64 (x8_1 + 1)), (by first | rfl | (simp; done) | (simp [*]; done)), H', ⟨by have := HK1.out; omega⟩, ⟨by (with_reducible repeat (first | apply Kd.N_alloc | apply Kd.N_drewN | apply Kd.N_drew)); exact Kd.N_mono HO_4.out (fun _ hk => ⟨hk.1.1, ⟨hk.1.2.1, ⟨hk.1.2.2.1, hk.2⟩⟩⟩)⟩, ⟨by (with_reducible repeat (first | apply Kd.R_alloc | apply Kd.R_drewN | apply Kd.R_drew)); exact HO_5.out⟩, ⟨by (with_reducible repeat (first | apply Kd.R_alloc | apply Kd.R_drewN | apply Kd.R_drew)); exact HO_6.out⟩, ⟨by (with_reducible repeat (first | apply Kd.N_alloc | apply Kd.N_drewN | apply Kd.N_drew)); exact Kd.N_mono HO138.out (fun _ hk => ⟨hk.1, ⟨hk.2.1, ⟨hk.2.2.1, hk.2.2.2.1⟩⟩⟩)⟩, ⟨by repeat (first | (with_reducible first | exact HB.out | apply below_alloc | apply pw_below_drewN | apply below_drew1 | refine below_set ?_ GE131.out) | exact HB.out)⟩⟩
              · rw [if_neg c20] at H
                exact absurd H (by simp)
          · rw [if_neg c6] at H
            exact absurd H (by simp)
        · rw [if_neg c5] at H
          exact absurd H (by simp)
      · rw [if_neg c4] at H
        have c4b0 : decide (x8_1 < (t119.length : Int)) = false := decide_eq_false c4
        clear c4
        simp only [Option.some.injEq, Prod.mk.injEq] at H
        obtain ⟨rfl, rfl⟩ := H
        obtain ⟨Ao32, co32, eo32⟩ := Kd.N_slice HO_4.out
        subst eo32
        go_wp2
        go_ret2
        exact ⟨_, _, by first | rfl | (simp [errW_none, errW_some] <;> rfl) | (simp [*, errW_none, errW_some] <;> rfl), by (with_reducible repeat (first | apply Kd.N_alloc | apply Kd.N_drewN | apply Kd.N_drew)); exact Kd.N_mono HO_7.out (fun _ hk => ⟨hk.1, hk.2.2.2⟩), by (with_reducible repeat (first | apply Kd.R_alloc | apply Kd.R_drewN | apply Kd.R_drew)); exact HO_6.out, by repeat (first | (with_reducible first | exact HB.out | apply below_alloc | apply pw_below_drewN | apply below_drew1) | exact HB.out)⟩

/-! ### cuneiformref09_Same: function 29 -/
def cuneiformref09_Same.f (k : Nat) (l0_0 : List Int) (a0_1 : Bool) (a0_2 : Int) (a0_3 : Int) (l1_0 : List Int) (a1_1 : Bool) (a1_2 : Int) (a1_3 : Int) : Option (Bool) := (cuneiformref01_Same.f k l0_0 l1_0).bind fun t141 => (if t141 = true then (if (a0_1 == a1_1) = true then (if a0_2 = a1_2 then (some (a0_3 == a1_3)) else (some false)) else (some false)) else (some false))
theorem cuneiformref09_Same.mono : ∀ a0 a1 a2 a3 a4 a5 a6 a7 k, LeO (cuneiformref09_Same.f k a0 a1 a2 a3 a4 a5 a6 a7) (cuneiformref09_Same.f (k + 1) a0 a1 a2 a3 a4 a5 a6 a7) := by
  intro a0 a1 a2 a3 a4 a5 a6 a7 k
  unfold cuneiformref09_Same.f
  repeat' first
      | (with_reducible exact cuneiformref01_Same.mono _ _ _)
      | (with_reducible exact LeO.refl _)
      | (with_reducible exact LeO.none _)
      | (with_reducible refine LeO.ite ?_ ?_)
      | (with_reducible refine LeO.bind ?_ (fun _ => ?_))
      | exact cuneiformref01_Same.mono _ _ _
      | exact LeO.none _
      | refine LeO.ite ?_ ?_
      | refine LeO.bind ?_ (fun _ => ?_)
set_option maxHeartbeats 8000000 in
set_option maxRecDepth 100000 in
theorem cuneiformref09_Same.calls (k : Nat) (A0_0 : Option Addr) (c0_0 : Nat) (l0_0 : List Int) (a0_1 : Bool) (a0_2 : Int) (a0_3 : Int) (A1_0 : Option Addr) (c1_0 : Nat) (l1_0 : List Int) (a1_1 : Bool) (a1_2 : Int) (a1_3 : Int) (r : Bool) (w : World) (hr0_0 : Kd.C (Kd.int .u8) w A0_0 l0_0.length l0_0) (hc0_0 : l0_0.length ≤ c0_0) (hr1_0 : Kd.C (Kd.int .u8) w A1_0 l1_0.length l1_0) (hc1_0 : l1_0.length ≤ c1_0) (h : cuneiformref09_Same.f k l0_0 a0_1 a0_2 a0_3 l1_0 a1_1 a1_2 a1_3 = some r) :
    Calls Try.prog 29 #[.agg #[.slice A0_0 l0_0.length c0_0, .bool a0_1, .int .i64 a0_2, .int .u64 a0_3], .agg #[.slice A1_0 l1_0.length c1_0, .bool a1_1, .int .i64 a1_2, .int .u64 a1_3]] w fun e w' => e = .returned (.bool r) ∧ Below w.heap.size w w' := by
  have hu61 := Try.underlying61
  have HR0_0 := Aside0.mk hr0_0
  have HC0_0 := Aside0.mk hc0_0
  clear hr0_0 hc0_0
  have HR1_0 := Aside0.mk hr1_0
  have HC1_0 := Aside0.mk hc1_0
  clear hr1_0 hc1_0
  have HB := Aside0.mk (Below.refl w.heap.size w)
  have H : ((cuneiformref01_Same.f k l0_0 l1_0).bind fun t141 => (if t141 = true then (if (a0_1 == a1_1) = true then (if a0_2 = a1_2 then (some (a0_3 == a1_3)) else (some false)) else (some false)) else (some false))) = some r := h
  clear h
  replace H := Option.bind_eq_some_iff.mp H
  obtain ⟨t141, A30, H⟩ := H
  replace H : (if t141 = true then (if (a0_1 == a1_1) = true then (if a0_2 = a1_2 then (some (a0_3 == a1_3)) else (some false)) else (some false)) else (some false)) = some r := H
  have A3 := Aside0.mk A30
  clear A30
  by_cases c4 : t141 = true
  · subst c4
    have H1 : (if (a0_1 == a1_1) = true then (if a0_2 = a1_2 then (some (a0_3 == a1_3)) else (some false)) else (some false)) = some r := by rw [if_pos rfl] at H; exact H
    clear H
    have H := H1
    clear H1
    by_cases c5 : (a0_1 == a1_1) = true
    · rw [if_pos c5] at H
      have c5b0 : (a0_1 == a1_1) = true := c5
      (try (have c5b1 : decide (a0_1 = a1_1) = true := by simpa using c5))
      (try (have c5b2 : (a0_1 == a1_1) = true := by simpa using c5))
      clear c5
      by_cases c6 : a0_2 = a1_2
      · rw [if_pos c6] at H
        have c6b0 : (a0_2 == a1_2) = true := beq_iff_eq.mpr c6
        have c6b1 : (a0_2 != a1_2) = false := bne_eq_false_iff_eq.mpr c6
        clear c6
        obtain rfl := Option.some.inj H
        go_enter Try.func29, Try.ntmps29
        go_wp2_with (first | ((with_reducible refine gate_dst (N := 2) rfl ?_); refine box_event ?hg (N := 2) ?hd (cs := #[.slice A0_0 l0_0.length c0_0, .bool a0_1, .int .i64 a0_2, .int .u64 a0_3]) (t := 61) ?hr ?_; (case hd => rfl); (case hg => rfl); (case hr => first | (go_simp; done) | (go_simp; rfl)); intro gb139 hg w7 hbox hb; have n0_ := Aside0.mk (below_step (by repeat (first | (with_reducible first | exact HB.out | apply below_alloc | apply pw_below_drewN | apply below_drew1) | exact HB.out)) hb); have n1_ := Aside0.mk (hbox); have n2_ := Aside0.mk ((by rw [hg]; exact (below_size (by repeat (first | (with_reducible first | exact HB.out | apply below_alloc | apply pw_below_drewN | apply below_drew1) | exact HB.out))) : w.heap.size ≤ gb139)); have n3_ := Aside0.mk ((by rw [hg]; exact (below_size (by repeat (first | (with_reducible first | exact HB.out | apply below_alloc | apply pw_below_drewN | apply below_drew1) | exact HB.out))) : w.heap.size ≤ gb139)); clear HB; have HB := n0_; have BK139 := n1_; have GW139 := n2_; have GE139 := n3_; clear n0_ n1_ n2_ n3_; clear hb hbox hg) | ((with_reducible refine gate_dst (N := 3) rfl ?_); refine box_event ?hg (N := 3) ?hd (cs := #[.slice A1_0 l1_0.length c1_0, .bool a1_1, .int .i64 a1_2, .int .u64 a1_3]) (t := 61) ?hr ?_; (case hd => rfl); (case hg => rfl); (case hr => first | (go_simp; done) | (go_simp; rfl)); intro gb140 hg w8 hbox hb; have n0_ := Aside0.mk (blk_below (g := gb139) (o := .cells #[.slice A0_0 l0_0.length c0_0, .bool a0_1, .int .i64 a0_2, .int .u64 a0_3] 61 (0, 0)) (by (with_reducible repeat (first | refine blk_drewN ?_ _ | refine blk_drew ?_ | refine blk_alloc ?_ _)); exact BK139.out) hb); have n1_ := Aside0.mk (below_step (by repeat (first | (with_reducible first | exact HB.out | apply below_alloc | apply pw_below_drewN | apply below_drew1 | refine below_set ?_ GE139.out) | exact HB.out)) hb); have n2_ := Aside0.mk (hbox); have n3_ := Aside0.mk ((by rw [hg]; exact (below_size (by repeat (first | (with_reducible first | exact HB.out | apply below_alloc | apply pw_below_drewN | apply below_drew1 | refine below_set ?_ GE139.out) | exact HB.out))) : w.heap.size ≤ gb140)); have n4_ := Aside0.mk ((by rw [hg]; exact (below_size (by repeat (first | (with_reducible first | exact HB.out | apply below_alloc | apply pw_below_drewN | apply below_drew1 | refine below_set ?_ GE139.out) | exact HB.out))) : w.heap.size ≤ gb140)); have n5_ := Aside0.mk ((by rw [hg]; exact Nat.ne_of_lt (blk_lt (g := gb139) (o := .cells #[.slice A0_0 l0_0.length c0_0, .bool a0_1, .int .i64 a0_2, .int .u64 a0_3] 61 (0, 0)) (by (with_reducible repeat (first | refine blk_drewN ?_ _ | refine blk_drew ?_ | refine blk_alloc ?_ _)); exact BK139.out)) : gb139 ≠ gb140)); have n6_ := Aside0.mk ((by rw [hg]; exact Nat.ne_of_gt (blk_lt (g := gb139) (o := .cells #[.slice A0_0 l0_0.length c0_0, .bool a0_1, .int .i64 a0_2, .int .u64 a0_3] 61 (0, 0)) (by (with_reducible repeat (first | refine blk_drewN ?_ _ | refine blk_drew ?_ | refine blk_alloc ?_ _)); exact BK139.out)) : gb140 ≠ gb139)); clear BK139; clear HB; have BK139 := n0_; have HB := n1_; have BK140 := n2_; have GW140 := n3_; have GE140 := n4_; have NB139_140 := n5_; have NB140_139 := n6_; clear n0_ n1_ n2_ n3_ n4_ n5_ n6_; clear hb hbox hg; have hnb9 := NB139_140.out; have hnc9 := NB140_139.out; have hcz10_0 : w8.cell? ⟨gb139, 0, none⟩ = some (.slice A0_0 l0_0.length c0_0) := (blk_cell BK139.out 0).trans rfl; have hcz10_1 : w8.cell? ⟨gb139, 1, none⟩ = some (.bool a0_1) := (blk_cell BK139.out 1).trans rfl; have hcz10_2 : w8.cell? ⟨gb139, 2, none⟩ = some (.int .i64 a0_2) := (blk_cell BK139.out 2).trans rfl; have hcz10_3 : w8.cell? ⟨gb139, 3, none⟩ = some (.int .u64 a0_3) := (blk_cell BK139.out 3).trans rfl; have hfz10_0 := blk_frozen BK139.out 0; have hfz10_1 := blk_frozen BK139.out 1; have hfz10_2 := blk_frozen BK139.out 2; have hfz10_3 := blk_frozen BK139.out 3; have hcz11_0 : w8.cell? ⟨gb140, 0, none⟩ = some (.slice A1_0 l1_0.length c1_0) := (blk_cell BK140.out 0).trans rfl; have hcz11_1 : w8.cell? ⟨gb140, 1, none⟩ = some (.bool a1_1) := (blk_cell BK140.out 1).trans rfl; have hcz11_2 : w8.cell? ⟨gb140, 2, none⟩ = some (.int .i64 a1_2) := (blk_cell BK140.out 2).trans rfl; have hcz11_3 : w8.cell? ⟨gb140, 3, none⟩ = some (.int .u64 a1_3) := (blk_cell BK140.out 3).trans rfl; have hfz11_0 := blk_frozen BK140.out 0; have hfz11_1 := blk_frozen BK140.out 1; have hfz11_2 := blk_frozen BK140.out 2; have hfz11_3 := blk_frozen BK140.out 3) | ((with_reducible refine gate_callee (f := 23) rfl ?_); refine goesL_ (some 9) rfl rfl Try.func23 (by kernel_rfl) rfl #[.slice A0_0 l0_0.length c0_0, .slice A1_0 l1_0.length c1_0] rfl (by (try simp only [List.map_toArray, List.map_cons, List.map_nil]); first | done | rfl | (simp only [List.length_drop, List.length_take]; rfl)) ?_; (with_reducible refine (cuneiformref01_Same.calls k _ _ l0_0 _ _ l1_0 true _ ?side1 ?side2 ?side3 ?side4 A3.out).mono ?_); (case side1 => repeat (first | exact (Kd.C_below HR0_0.out HB.out) | (with_reducible refine Kd.C_alloc ?_ _) | (with_reducible refine Kd.C_drewN ?_ _) | (with_reducible refine Kd.C_drew ?_))); (case side2 => exact HC0_0.out); (case side3 => repeat (first | exact (Kd.C_below HR1_0.out HB.out) | (with_reducible refine Kd.C_alloc ?_ _) | (with_reducible refine Kd.C_drewN ?_ _) | (with_reducible refine Kd.C_drew ?_))); (case side4 => exact HC1_0.out); rintro e w' ⟨rfl, ⟨nd, rfl⟩⟩; refine ⟨_, rfl, ?_⟩))
        go_ret
        exact ⟨by first | rfl | (simp [errW_none, errW_some] <;> rfl) | (simp [*, errW_none, errW_some] <;> rfl), by repeat (first | (with_reducible first | exact HB.out | apply below_alloc | apply pw_below_drewN | apply below_drew1 | refine below_set ?_ GE139.out | refine below_set ?_ GE140.out) | exact HB.out)⟩
      · rw [if_neg c6] at H
        have c6b0 : (a0_2 == a1_2) = false := beq_eq_false_iff_ne.mpr c6
        have c6b1 : (a0_2 != a1_2) = true := bne_iff_ne.mpr c6
        obtain rfl := Option.some.inj H
        go_enter Try.func29, Try.ntmps29
        go_wp2_with (first | ((with_reducible refine gate_dst (N := 2) rfl ?_); refine box_event ?hg (N := 2) ?hd (cs := #[.slice A0_0 l0_0.length c0_0, .bool a0_1, .int .i64 a0_2, .int .u64 a0_3]) (t := 61) ?hr ?_; (case hd => rfl); (case hg => rfl); (case hr => first | (go_simp; done) | (go_simp; rfl)); intro gb139 hg w12 hbox hb; have n0_ := Aside0.mk (below_step (by repeat (first | (with_reducible first | exact HB.out | apply below_alloc | apply pw_below_drewN | apply below_drew1) | exact HB.out)) hb); have n1_ := Aside0.mk (hbox); have n2_ := Aside0.mk ((by rw [hg]; exact (below_size (by repeat (first | (with_reducible first | exact HB.out | apply below_alloc | apply pw_below_drewN | apply below_drew1) | exact HB.out))) : w.heap.size ≤ gb139)); have n3_ := Aside0.mk ((by rw [hg]; exact (below_size (by repeat (first | (with_reducible first | exact HB.out | apply below_alloc | apply pw_below_drewN | apply below_drew1) | exact HB.out))) : w.heap.size ≤ gb139)); clear HB; have HB := n0_; have BK139 := n1_; have GW139 := n2_; have GE139 := n3_; clear n0_ n1_ n2_ n3_; clear hb hbox hg) | ((with_reducible refine gate_dst (N := 3) rfl ?_); refine box_event ?hg (N := 3) ?hd (cs := #[.slice A1_0 l1_0.length c1_0, .bool a1_1, .int .i64 a1_2, .int .u64 a1_3]) (t := 61) ?hr ?_; (case hd => rfl); (case hg => rfl); (case hr => first | (go_simp; done) | (go_simp; rfl)); intro gb140 hg w13 hbox hb; have n0_ := Aside0.mk (blk_below (g := gb139) (o := .cells #[.slice A0_0 l0_0.length c0_0, .bool a0_1, .int .i64 a0_2, .int .u64 a0_3] 61 (0, 0)) (by (with_reducible repeat (first | refine blk_drewN ?_ _ | refine blk_drew ?_ | refine blk_alloc ?_ _)); exact BK139.out) hb); have n1_ := Aside0.mk (below_step (by repeat (first | (with_reducible first | exact HB.out | apply below_alloc | apply pw_below_drewN | apply below_drew1 | refine below_set ?_ GE139.out) | exact HB.out)) hb); have n2_ := Aside0.mk (hbox); have n3_ := Aside0.mk ((by rw [hg]; exact (below_size (by repeat (first | (with_reducible first | exact HB.out | apply below_alloc | apply pw_below_drewN | apply below_drew1 | refine below_set ?_ GE139.out) | exact HB.out))) : w.heap.size ≤ gb140)); have n4_ := Aside0.mk ((by rw [hg]; exact (below_size (by repeat (first | (with_reducible first | exact HB.out | apply below_alloc | apply pw_below_drewN | apply below_drew1 | refine below_set ?_ GE139.out) | exact HB.out))) : w.heap.size ≤ gb140)); have n5_ := Aside0.mk ((by rw [hg]; exact Nat.ne_of_lt (blk_lt (g := gb139) (o := .cells #[.slice A0_0 l0_0.length c0_0, .bool a0_1, .int .i64 a0_2, .int .u64 a0_3] 61 (0, 0)) (by (with_reducible repeat (first | refine blk_drewN ?_ _ | refine blk_drew ?_ | refine blk_alloc ?_ _)); exact BK139.out)) : gb139 ≠ gb140)); have n6_ := Aside0.mk ((by rw [hg]; exact Nat.ne_of_gt (blk_lt (g := gb139) (o := .cells #[.slice A0_0 l0_0.length c0_0, .bool a0_1, .int .i64 a0_2, .int .u64 a0_3] 61 (0, 0)) (by (with_reducible repeat (first | refine blk_drewN ?_ _ | refine blk_drew ?_ | refine blk_alloc ?_ _)); exact BK139.out)) : gb140 ≠ gb139)); clear BK139; clear HB; have BK139 := n0_; have HB := n1_; have BK140 := n2_; have GW140 := n3_; have GE140 := n4_; have NB139_140 := n5_; have NB140_139 := n6_; clear n0_ n1_ n2_ n3_ n4_ n5_ n6_; clear hb hbox hg; have hnb14 := NB139_140.out; have hnc14 := NB140_139.out; have hcz15_0 : w13.cell? ⟨gb139, 0, none⟩ = some (.slice A0_0 l0_0.length c0_0) := (blk_cell BK139.out 0).trans rfl; have hcz15_1 : w13.cell? ⟨gb139, 1, none⟩ = some (.bool a0_1) := (blk_cell BK139.out 1).trans rfl; have hcz15_2 : w13.cell? ⟨gb139, 2, none⟩ = some (.int .i64 a0_2) := (blk_cell BK139.out 2).trans rfl; have hcz15_3 : w13.cell? ⟨gb139, 3, none⟩ = some (.int .u64 a0_3) := (blk_cell BK139.out 3).trans rfl; have hfz15_0 := blk_frozen BK139.out 0; have hfz15_1 := blk_frozen BK139.out 1; have hfz15_2 := blk_frozen BK139.out 2; have hfz15_3 := blk_frozen BK139.out 3; have hcz16_0 : w13.cell? ⟨gb140, 0, none⟩ = some (.slice A1_0 l1_0.length c1_0) := (blk_cell BK140.out 0).trans rfl; have hcz16_1 : w13.cell? ⟨gb140, 1, none⟩ = some (.bool a1_1) := (blk_cell BK140.out 1).trans rfl; have hcz16_2 : w13.cell? ⟨gb140, 2, none⟩ = some (.int .i64 a1_2) := (blk_cell BK140.out 2).trans rfl; have hcz16_3 : w13.cell? ⟨gb140, 3, none⟩ = some (.int .u64 a1_3) := (blk_cell BK140.out 3).trans rfl; have hfz16_0 := blk_frozen BK140.out 0; have hfz16_1 := blk_frozen BK140.out 1; have hfz16_2 := blk_frozen BK140.out 2; have hfz16_3 := blk_frozen BK140.out 3) | ((with_reducible refine gate_callee (f := 23) rfl ?_); refine goesL_ (some 9) rfl rfl Try.func23 (by kernel_rfl) rfl #[.slice A0_0 l0_0.length c0_0, .slice A1_0 l1_0.length c1_0] rfl (by (try simp only [List.map_toArray, List.map_cons, List.map_nil]); first | done | rfl | (simp only [List.length_drop, List.length_take]; rfl)) ?_; (with_reducible refine (cuneiformref01_Same.calls k _ _ l0_0 _ _ l1_0 true _ ?side1 ?side2 ?side3 ?side4 A3.out).mono ?_); (case side1 => repeat (first | exact (Kd.C_below HR0_0.out HB.out) | (with_reducible refine Kd.C_alloc ?_ _) | (with_reducible refine Kd.C_drewN ?_ _) | (with_reducible refine Kd.C_drew ?_))); (case side2 => exact HC0_0.out); (case side3 => repeat (first | exact (Kd.C_below HR1_0.out HB.out) | (with_reducible refine Kd.C_alloc ?_ _) | (with_reducible refine Kd.C_drewN ?_ _) | (with_reducible refine Kd.C_drew ?_))); (case side4 => exact HC1_0.out); rintro e w' ⟨rfl, ⟨nd, rfl⟩⟩; refine ⟨_, rfl, ?_⟩))
        go_ret
        exact ⟨by first | rfl | (simp [errW_none, errW_some] <;> rfl) | (simp [*, errW_none, errW_some] <;> rfl), by repeat (first | (with_reducible first | exact HB.out | apply below_alloc | apply pw_below_drewN | apply below_drew1 | refine below_set ?_ GE139.out | refine below_set ?_ GE140.out) | exact HB.out)⟩
    · rw [if_neg c5] at H
      have c5b0 : (a0_1 == a1_1) = false := by simpa using c5
      (try (have c5b1 : decide (a0_1 = a1_1) = false := by simpa using c5))
      (try (have c5b2 : (a0_1 == a1_1) = false := by simpa using c5))
      (try (have c5b3 : ¬ (a0_1 = a1_1) := by simpa using c5))
      clear c5
      obtain rfl := Option.some.inj H
      go_enter Try.func29, Try.ntmps29
      go_wp2_with (first | ((with_reducible refine gate_dst (N := 2) rfl ?_); refine box_event ?hg (N := 2) ?hd (cs := #[.slice A0_0 l0_0.length c0_0, .bool a0_1, .int .i64 a0_2, .int .u64 a0_3]) (t := 61) ?hr ?_; (case hd => rfl); (case hg => rfl); (case hr => first | (go_simp; done) | (go_simp; rfl)); intro gb139 hg w17 hbox hb; have n0_ := Aside0.mk (below_step (by repeat (first | (with_reducible first | exact HB.out | apply below_alloc | apply pw_below_drewN | apply below_drew1) | exact HB.out)) hb); have n1_ := Aside0.mk (hbox); have n2_ := Aside0.mk ((by rw [hg]; exact (below_size (by repeat (first | (with_reducible first | exact HB.out | apply below_alloc | apply pw_below_drewN | apply below_drew1) | exact HB.out))) : w.heap.size ≤ gb139)); have n3_ := Aside0.mk ((by rw [hg]; exact (below_size (by repeat (first | (with_reducible first | exact HB.out | apply below_alloc | apply pw_below_drewN | apply below_drew1) | exact HB.out))) : w.heap.size ≤ gb139)); clear HB; have HB := n0_; have BK139 := n1_; have GW139 := n2_; have GE139 := n3_; clear n0_ n1_ n2_ n3_; clear hb hbox hg) | ((with_reducible refine gate_dst (N := 3) rfl ?_); refine box_event ?hg (N := 3) ?hd (cs := #[.slice A1_0 l1_0.length c1_0, .bool a1_1, .int .i64 a1_2, .int .u64 a1_3]) (t := 61) ?hr ?_; (case hd => rfl); (case hg => rfl); (case hr => first | (go_simp; done) | (go_simp; rfl)); intro gb140 hg w18 hbox hb; have n0_ := Aside0.mk (blk_below (g := gb139) (o := .cells #[.slice A0_0 l0_0.length c0_0, .bool a0_1, .int .i64 a0_2, .int .u64 a0_3] 61 (0, 0)) (by (with_reducible repeat (first | refine blk_drewN ?_ _ | refine blk_drew ?_ | refine blk_alloc ?_ _)); exact BK139.out) hb); have n1_ := Aside0.mk (below_step (by repeat (first | (with_reducible first | exact HB.out | apply below_alloc | apply pw_below_drewN | apply below_drew1 | refine below_set ?_ GE139.out) | exact HB.out)) hb); have n2_ := Aside0.mk (hbox); have n3_ := Aside0.mk ((by rw [hg]; exact (below_size (by repeat (first | (with_reducible first | exact HB.out | apply below_alloc | apply pw_below_drewN | apply below_drew1 | refine below_set ?_ GE139.out) | exact HB.out))) : w.heap.size ≤ gb140)); have n4_ := Aside0.mk ((by rw [hg]; exact (below_size (by repeat (first | (with_reducible first | exact HB.out | apply below_alloc | apply pw_below_drewN | apply below_drew1 | refine below_set ?_ GE139.out) | exact HB.out))) : w.heap.size ≤ gb140)); have n5_ := Aside0.mk ((by rw [hg]; exact Nat.ne_of_lt (blk_lt (g := gb139) (o := .cells #[.slice A0_0 l0_0.length c0_0, .bool a0_1, .int .i64 a0_2, .int .u64 a0_3] 61 (0, 0)) (by (with_reducible repeat (first | refine blk_drewN ?_ _ | refine blk_drew ?_ | refine blk_alloc ?_ _)); exact BK139.out)) : gb139 ≠ gb140)); have n6_ := Aside0.mk ((by rw [hg]; exact Nat.ne_of_gt (blk_lt (g := gb139) (o := .cells #[.slice A0_0 l0_0.length c0_0, .bool a0_1, .int .i64 a0_2, .int .u64 a0_3] 61 (0, 0)) (by (with_reducible repeat (first | refine blk_drewN ?_ _ | refine blk_drew ?_ | refine blk_alloc ?_ _)); exact BK139.out)) : gb140 ≠ gb139)); clear BK139; clear HB; have BK139 := n0_; have HB := n1_; have BK140 := n2_; have GW140 := n3_; have GE140 := n4_; have NB139_140 := n5_; have NB140_139 := n6_; clear n0_ n1_ n2_ n3_ n4_ n5_ n6_; clear hb hbox hg; have hnb19 := NB139_140.out; have hnc19 := NB140_139.out; have hcz20_0 : w18.cell? ⟨gb139, 0, none⟩ = some (.slice A0_0 l0_0.length c0_0) := (blk_cell BK139.out 0).trans rfl; have hcz20_1 : w18.cell? ⟨gb139, 1, none⟩ = some (.bool a0_1) := (blk_cell BK139.out 1).trans rfl; have hcz20_2 : w18.cell? ⟨gb139, 2, none⟩ = some (.int .i64 a0_2) := (blk_cell BK139.out 2).trans rfl; have hcz20_3 : w18.cell? ⟨gb139, 3, none⟩ = some (.int .u64 a0_3) := (blk_cell BK139.out 3).trans rfl; have hfz20_0 := blk_frozen BK139.out 0; have hfz20_1 := blk_frozen BK139.out 1; have hfz20_2 := blk_frozen BK139.out 2; have hfz20_3 := blk_frozen BK139.out 3; have hcz21_0 : w18.cell? ⟨gb140, 0, none⟩ = some (.slice A1_0 l1_0.length c1_0) := (blk_cell BK140.out 0).trans rfl; have hcz21_1 : w18.cell? ⟨gb140, 1, none⟩ = some (.bool a1_1) := (blk_cell BK140.out 1).trans rfl; have hcz21_2 : w18.cell? ⟨gb140, 2, none⟩ = some (.int .i64 a1_2) := (blk_cell BK140.out 2).trans rfl; have hcz21_3 : w18.cell? ⟨gb140, 3, none⟩ = some (.int .u64 a1_3) := (blk_cell BK140.out 3).trans rfl; have hfz21_0 := blk_frozen BK140.out 0; have hfz21_1 := blk_frozen BK140.out 1; have hfz21_2 := blk_frozen BK140.out 2; have hfz21_3 := blk_frozen BK140.out 3) | ((with_reducible refine gate_callee (f := 23) rfl ?_); refine goesL_ (some 9) rfl rfl Try.func23 (by kernel_rfl) rfl #[.slice A0_0 l0_0.length c0_0, .slice A1_0 l1_0.length c1_0] rfl (by (try simp only [List.map_toArray, List.map_cons, List.map_nil]); first | done | rfl | (simp only [List.length_drop, List.length_take]; rfl)) ?_; (with_reducible refine (cuneiformref01_Same.calls k _ _ l0_0 _ _ l1_0 true _ ?side1 ?side2 ?side3 ?side4 A3.out).mono ?_); (case side1 => repeat (first | exact (Kd.C_below HR0_0.out HB.out) | (with_reducible refine Kd.C_alloc ?_ _) | (with_reducible refine Kd.C_drewN ?_ _) | (with_reducible refine Kd.C_drew ?_))); (case side2 => exact HC0_0.out); (case side3 => repeat (first | exact (Kd.C_below HR1_0.out HB.out) | (with_reducible refine Kd.C_alloc ?_ _) | (with_reducible refine Kd.C_drewN ?_ _) | (with_reducible refine Kd.C_drew ?_))); (case side4 => exact HC1_0.out); rintro e w' ⟨rfl, ⟨nd, rfl⟩⟩; refine ⟨_, rfl, ?_⟩))
      go_ret
      exact ⟨by first | rfl | (simp [errW_none, errW_some] <;> rfl) | (simp [*, errW_none, errW_some] <;> rfl), by repeat (first | (with_reducible first | exact HB.out | apply below_alloc | apply pw_below_drewN | apply below_drew1 | refine below_set ?_ GE139.out | refine below_set ?_ GE140.out) | exact HB.out)⟩
  · replace c4 := Bool.eq_false_iff.mpr c4
    subst c4
    have H1 : (some false) = some r := by rw [if_neg (show ¬ (false = true) by decide)] at H; exact H
    clear H
    have H := H1
    clear H1
    obtain rfl := Option.some.inj H
    go_enter Try.func29, Try.ntmps29
    go_wp2_with (first | ((with_reducible refine gate_dst (N := 2) rfl ?_); refine box_event ?hg (N := 2) ?hd (cs := #[.slice A0_0 l0_0.length c0_0, .bool a0_1, .int .i64 a0_2, .int .u64 a0_3]) (t := 61) ?hr ?_; (case hd => rfl); (case hg => rfl); (case hr => first | (go_simp; done) | (go_simp; rfl)); intro gb139 hg w22 hbox hb; have n0_ := Aside0.mk (below_step (by repeat (first | (with_reducible first | exact HB.out | apply below_alloc | apply pw_below_drewN | apply below_drew1) | exact HB.out)) hb); have n1_ := Aside0.mk (hbox); have n2_ := Aside0.mk ((by rw [hg]; exact (below_size (by repeat (first | (with_reducible first | exact HB.out | apply below_alloc | apply pw_below_drewN | apply below_drew1) | exact HB.out))) : w.heap.size ≤ gb139)); have n3_ := Aside0.mk ((by rw [hg]; exact (below_size (by repeat (first | (with_reducible first | exact HB.out | apply below_alloc | apply pw_below_drewN | apply below_drew1) | exact HB.out))) : w.heap.size ≤ gb139)); clear HB; have HB := n0_; have BK139 := n1_; have GW139 := n2_; have GE139 := n3_; clear n0_ n1_ n2_ n3_; clear hb hbox hg) | ((with_reducible refine gate_dst (N := 3) rfl ?_); refine box_event ?hg (N := 3) ?hd (cs := #[.slice A1_0 l1_0.length c1_0, .bool a1_1, .int .i64 a1_2, .int .u64 a1_3]) (t := 61) ?hr ?_; (case hd => rfl); (case hg => rfl); (case hr => first | (go_simp; done) | (go_simp; rfl)); intro gb140 hg w23 hbox hb; have n0_ := Aside0.mk (blk_below (g := gb139) (o := .cells #[.slice A0_0 l0_0.length c0_0, .bool a0_1, .int .i64 a0_2, .int .u64 a0_3] 61 (0, 0)) (by (with_reducible repeat (first | refine blk_drewN ?_ _ | refine blk_drew ?_ | refine blk_alloc ?_ _)); exact BK139.out) hb); have n1_ := Aside0.mk (below_step (by repeat (first | (with_reducible first | exact HB.out | apply below_alloc | apply pw_below_drewN | apply below_drew1 | refine below_set ?_ GE139.out) | exact HB.out)) hb); have n2_ := Aside0.mk (hbox); have n3_ := Aside0.mk ((by rw [hg]; exact (below_size (by repeat (first | (with_reducible first | exact HB.out | apply below_alloc | apply pw_below_drewN | apply below_drew1 | refine below_set ?_ GE139.out) | exact HB.out))) : w.heap.size ≤ gb140)); have n4_ := Aside0.mk ((by rw [hg]; exact (below_size (by repeat (first | (with_reducible first | exact HB.out | apply below_alloc | apply pw_below_drewN | apply below_drew1 | refine below_set ?_ GE139.out) | exact HB.out))) : w.heap.size ≤ gb140)); have n5_ := Aside0.mk ((by rw [hg]; exact Nat.ne_of_lt (blk_lt (g := gb139) (o := .cells #[.slice A0_0 l0_0.length c0_0, .bool a0_1, .int .i64 a0_2, .int .u64 a0_3] 61 (0, 0)) (by (with_reducible repeat (first | refine blk_drewN ?_ _ | refine blk_drew ?_ | refine blk_alloc ?_ _)); exact BK139.out)) : gb139 ≠ gb140)); have n6_ := Aside0.mk ((by rw [hg]; exact Nat.ne_of_gt (blk_lt (g := gb139) (o := .cells #[.slice A0_0 l0_0.length c0_0, .bool a0_1, .int .i64 a0_2, .int .u64 a0_3] 61 (0, 0)) (by (with_reducible repeat (first | refine blk_drewN ?_ _ | refine blk_drew ?_ | refine blk_alloc ?_ _)); exact BK139.out)) : gb140 ≠ gb139)); clear BK139; clear HB; have BK139 := n0_; have HB := n1_; have BK140 := n2_; have GW140 := n3_; have GE140 := n4_; have NB139_140 := n5_; have NB140_139 := n6_; clear n0_ n1_ n2_ n3_ n4_ n5_ n6_; clear hb hbox hg; have hnb24 := NB139_140.out; have hnc24 := NB140_139.out; have hcz25_0 : w23.cell? ⟨gb139, 0, none⟩ = some (.slice A0_0 l0_0.length c0_0) := (blk_cell BK139.out 0).trans rfl; have hcz25_1 : w23.cell? ⟨gb139, 1, none⟩ = some (.bool a0_1) := (blk_cell BK139.out 1).trans rfl; have hcz25_2 : w23.cell? ⟨gb139, 2, none⟩ = some (.int .i64 a0_2) := (blk_cell BK139.out 2).trans rfl; have hcz25_3 : w23.cell? ⟨gb139, 3, none⟩ = some (.int .u64 a0_3) := (blk_cell BK139.out 3).trans rfl; have hfz25_0 := blk_frozen BK139.out 0; have hfz25_1 := blk_frozen BK139.out 1; have hfz25_2 := blk_frozen BK139.out 2; have hfz25_3 := blk_frozen BK139.out 3; have hcz26_0 : w23.cell? ⟨gb140, 0, none⟩ = some (.slice A1_0 l1_0.length c1_0) := (blk_cell BK140.out 0).trans rfl; have hcz26_1 : w23.cell? ⟨gb140, 1, none⟩ = some (.bool a1_1) := (blk_cell BK140.out 1).trans rfl; have hcz26_2 : w23.cell? ⟨gb140, 2, none⟩ = some (.int .i64 a1_2) := (blk_cell BK140.out 2).trans rfl; have hcz26_3 : w23.cell? ⟨gb140, 3, none⟩ = some (.int .u64 a1_3) := (blk_cell BK140.out 3).trans rfl; have hfz26_0 := blk_frozen BK140.out 0; have hfz26_1 := blk_frozen BK140.out 1; have hfz26_2 := blk_frozen BK140.out 2; have hfz26_3 := blk_frozen BK140.out 3) | ((with_reducible refine gate_callee (f := 23) rfl ?_); refine goesL_ (some 9) rfl rfl Try.func23 (by kernel_rfl) rfl #[.slice A0_0 l0_0.length c0_0, .slice A1_0 l1_0.length c1_0] rfl (by (try simp only [List.map_toArray, List.map_cons, List.map_nil]); first | done | rfl | (simp only [List.length_drop, List.length_take]; rfl)) ?_; (with_reducible refine (cuneiformref01_Same.calls k _ _ l0_0 _ _ l1_0 false _ ?side1 ?side2 ?side3 ?side4 A3.out).mono ?_); (case side1 => repeat (first | exact (Kd.C_below HR0_0.out HB.out) | (with_reducible refine Kd.C_alloc ?_ _) | (with_reducible refine Kd.C_drewN ?_ _) | (with_reducible refine Kd.C_drew ?_))); (case side2 => exact HC0_0.out); (case side3 => repeat (first | exact (Kd.C_below HR1_0.out HB.out) | (with_reducible refine Kd.C_alloc ?_ _) | (with_reducible refine Kd.C_drewN ?_ _) | (with_reducible refine Kd.C_drew ?_))); (case side4 => exact HC1_0.out); rintro e w' ⟨rfl, ⟨nd, rfl⟩⟩; refine ⟨_, rfl, ?_⟩))
    go_ret
    exact ⟨by first | rfl | (simp [errW_none, errW_some] <;> rfl) | (simp [*, errW_none, errW_some] <;> rfl), by repeat (first | (with_reducible first | exact HB.out | apply below_alloc | apply pw_below_drewN | apply below_drew1 | refine below_set ?_ GE139.out | refine below_set ?_ GE140.out) | exact HB.out)⟩

end Go.Proofs.Ytmkhhnhoodneeaa.P
