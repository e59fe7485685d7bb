-- Printed by a program of this session, over contracts of its own; Lean checks it.
import Derived.Test.YtdgphdkebegidaaPx0
namespace Go.Proofs.Ytdgphdkebegidaa.P
open Go.RowKit Go.Proofs.Ytdgphdkebegidaa.Ext Go.Proofs.YtdgphdkebegidaaW.PrintWords Go.Proofs.YtdgphdkebegidaaW.PrintLast Go.Proofs.YtdgphdkebegidaaW.PrintMore
attribute [local go_sem] max2_int min2_int max_two min_two max_three min_three max_four min_four   -- for this text's walks alone
set_option linter.unusedVariables false
set_option linter.unusedSimpArgs false

/-! ### serial_Diff: function 15 -/
def serial_Diff.f (a0 : Int) (a1 : Int) : Option (Int) := some (wrap64 (wrap32 ((a0 - a1) % 4294967296)))
set_option maxHeartbeats 8000000 in
set_option maxRecDepth 100000 in
theorem serial_Diff.calls (a0 : Int) (a1 : Int) (r : Int) (w : World) (h : serial_Diff.f a0 a1 = some r) :
    Calls Try.prog 15 #[.int .u32 a0, .int .u32 a1] w fun e w' => e = .returned (.int .i64 r) ∧ Drawn0 w w' := by
  have H : (some (wrap64 (wrap32 ((a0 - a1) % 4294967296)))) = some r := h
  clear h
  obtain rfl := Option.some.inj H
  go_enter Try.func15, Try.ntmps15
  go_wp2
  go_ret
  exact ⟨by first | rfl | (simp; done) | (simp [*]; done), by repeat (first | exact Drawn0.refl _ | apply Drawn0.step)⟩

/-! ### serial_After: function 13 -/
def serial_After.f (a0 : Int) (a1 : Int) : Option (Bool) := (serial_Diff.f a0 a1).bind fun t101 => (some (decide (t101 > 0)))
set_option maxHeartbeats 8000000 in
set_option maxRecDepth 100000 in
theorem serial_After.calls (a0 : Int) (a1 : Int) (r : Bool) (w : World) (h : serial_After.f a0 a1 = some r) :
    Calls Try.prog 13 #[.int .u32 a0, .int .u32 a1] w fun e w' => e = .returned (.bool r) ∧ Drawn0 w w' := by
  have H : ((serial_Diff.f a0 a1).bind fun t101 => (some (decide (t101 > 0)))) = some r := h
  clear h
  replace H := Option.bind_eq_some_iff.mp H
  obtain ⟨t101, A30, H⟩ := H
  replace H : (some (decide (t101 > 0))) = some r := H
  have A3 := Aside0.mk A30
  clear A30
  obtain rfl := Option.some.inj H
  go_enter Try.func13, Try.ntmps13
  go_wp2_with (first | ((with_reducible refine gate_callee (f := 15) rfl ?_); refine goesL_ (some 7) rfl rfl Try.func15 (by kernel_rfl) rfl #[.int .u32 a0, .int .u32 a1] rfl (by (try simp only [List.map_toArray, List.map_cons, List.map_nil]); first | done | rfl | (simp only [List.length_drop, List.length_take]; rfl)) ?_; (with_reducible refine (serial_Diff.calls a0 a1 t101 _ A3.out).mono ?_); rintro e w' ⟨rfl, ⟨nd, rfl⟩⟩; refine ⟨_, rfl, ?_⟩))
  go_ret
  exact ⟨by first | rfl | (simp; done) | (simp [*]; done), by repeat (first | exact Drawn0.refl _ | apply Drawn0.step)⟩

-- NOT PRINTED: function 24 (slices_Values_uint32_uint32)

-- NOT PRINTED: function 21 (serial_taken)

-- by hand: function 17 (serial_Newest)

/-! ### cuneiformlaw10_known: function 8 -/
def cuneiformlaw10_known.f  : Option (Bool) := (serial_Newest.f (([4294967294, 1, 4294967295] : List Int))).bind fun bt105 => ((serial_After.f 2 4294967295).bind fun t107 => (if t107 = true then ((serial_Diff.f 2 4294967295).bind fun t108 => (if t108 = 3 then (if bt105.1 = 1 then (some bt105.2) else (some false)) else (some false))) else (some false)))
set_option maxHeartbeats 8000000 in
set_option maxRecDepth 100000 in
theorem cuneiformlaw10_known.calls  (r : Bool) (w : World) (h : cuneiformlaw10_known.f  = some r) :
    Calls Try.prog 8 #[] w fun e w' => e = .returned (.bool r) ∧ Below w.heap.size w w' := by
  have HB := Aside0.mk (Below.refl w.heap.size w)
  have H : ((serial_Newest.f (([4294967294, 1, 4294967295] : List Int))).bind fun bt105 => ((serial_After.f 2 4294967295).bind fun t107 => (if t107 = true then ((serial_Diff.f 2 4294967295).bind fun t108 => (if t108 = 3 then (if bt105.1 = 1 then (some bt105.2) else (some false)) else (some false))) else (some false)))) = some r := h
  clear h
  obtain ⟨y102, hy102⟩ : ∃ y_ : List Int, y_ = (([4294967294, 1, 4294967295] : List Int)) := ⟨_, rfl⟩
  replace H : ((serial_Newest.f y102).bind fun bt105 => ((serial_After.f 2 4294967295).bind fun t107 => (if t107 = true then ((serial_Diff.f 2 4294967295).bind fun t108 => (if t108 = 3 then (if bt105.1 = 1 then (some bt105.2) else (some false)) else (some false))) else (some false)))) = some r := by first | (rw [hy102]; with_reducible exact H) | (have H2_ := (Option.bind_some _ _).symm.trans H; rw [hy102]; with_reducible exact H2_) | (have H2_ := (Option.bind_some _ _).symm.trans H; with_reducible exact H2_) | with_reducible exact H | (rw [hy102]; exact H) | exact H
  have Ny102 := Aside0.mk hy102
  clear hy102
  replace H := Option.bind_eq_some_iff.mp H
  obtain ⟨⟨t105, t106⟩, A10, H⟩ := H
  replace H : ((serial_After.f 2 4294967295).bind fun t107 => (if t107 = true then ((serial_Diff.f 2 4294967295).bind fun t108 => (if t108 = 3 then (if t105 = 1 then (some t106) else (some false)) else (some false))) else (some false))) = some r := H
  have A1 := Aside0.mk A10
  clear A10
  replace H := Option.bind_eq_some_iff.mp H
  obtain ⟨t107, A20, H⟩ := H
  replace H : (if t107 = true then ((serial_Diff.f 2 4294967295).bind fun t108 => (if t108 = 3 then (if t105 = 1 then (some t106) else (some false)) else (some false))) else (some false)) = some r := H
  have A2 := Aside0.mk A20
  clear A20
  by_cases c3 : t107 = true
  · subst c3
    have H1 : ((serial_Diff.f 2 4294967295).bind fun t108 => (if t108 = 3 then (if t105 = 1 then (some t106) else (some false)) else (some false))) = some r := by rw [if_pos rfl] at H; exact H
    clear H
    have H := H1
    clear H1
    replace H := Option.bind_eq_some_iff.mp H
    obtain ⟨t108, A40, H⟩ := H
    replace H : (if t108 = 3 then (if t105 = 1 then (some t106) else (some false)) else (some false)) = some r := H
    have A4 := Aside0.mk A40
    clear A40
    by_cases c5 : t108 = 3
    · rw [if_pos c5] at H
      have c5b0 : (t108 == 3) = true := beq_iff_eq.mpr c5
      have c5b1 : (t108 != 3) = false := bne_eq_false_iff_eq.mpr c5
      clear c5
      by_cases c6 : t105 = 1
      · rw [if_pos c6] at H
        have c6b0 : (t105 == 1) = true := beq_iff_eq.mpr c6
        have c6b1 : (t105 != 1) = false := bne_eq_false_iff_eq.mpr c6
        clear c6
        obtain rfl := Option.some.inj H
        go_enter Try.func8, Try.ntmps8
        go_wp2_with (first | ((with_reducible refine gate_dst (N := 4) rfl ?_); refine Kd.R_lit (Kd.int .u32) _ 22 ?hg (N := 4) ?hd (xs := ([4294967294, 1, 4294967295] : List Int)) (inner := [.int .u32 4294967294, .int .u32 1, .int .u32 4294967295]) (ok := fun _ => True) (okp := fun _ => True) ?hr ?hp (fun _ hk => hk) trivial (Below.refl _ _) (Nat.le_refl _) (by simp) ?_; (case hd => rfl); (case hg => rfl); (case hr => first | (go_simp; done) | (go_simp; rfl)); (case hp => exact (Reps.one (show Kd.M (Kd.int .u32) _ _ _ 4294967294 [.int .u32 4294967294] from rfl) (Reps.one (show Kd.M (Kd.int .u32) _ _ _ 1 [.int .u32 1] from rfl) (Reps.one (show Kd.M (Kd.int .u32) _ _ _ 4294967295 [.int .u32 4294967295] from rfl) (Reps.none _ _))))); intro v103 w7 ho8 hb hg_ hnew_; clear hg_ hnew_; (first | rw [← Ny102.out] at ho8 | (simp only [Int.reduceToNat] at ho8; rw [← Ny102.out] at ho8)); have n0_ := Aside0.mk (Kd.R_lower ho8 (below_size (by repeat (first | (with_reducible first | exact HB.out | apply below_alloc | apply pw_below_drewN | apply below_drew1) | exact HB.out)))); have n1_ := Aside0.mk (below_step (by repeat (first | (with_reducible first | exact HB.out | apply below_alloc | apply pw_below_drewN | apply below_drew1) | exact HB.out)) hb); clear HB; have HO104 := n0_; have HB := n1_; clear n0_ n1_; clear hb ho8; obtain ⟨Ao9, co9, eo9⟩ := Kd.R_slice HO104.out; subst eo9) | ((with_reducible refine gate_callee (f := 17) rfl ?_); refine goesL_ (some 5) rfl rfl Try.func17 (by kernel_rfl) rfl #[.slice Ao9 y102.length co9] rfl (by (try simp only [List.map_toArray, List.map_cons, List.map_nil]); first | done | rfl | (simp only [List.length_drop, List.length_take]; rfl)) ?_; (with_reducible refine (serial_Newest.calls _ _ y102 t105 t106 _ ?side1 ?side2 A1.out).mono ?_); (case side1 => repeat (first | exact (Kd.R_reads' HO104.out).2.2 | (with_reducible refine Kd.C_alloc ?_ _) | (with_reducible refine Kd.C_drewN ?_ _) | (with_reducible refine Kd.C_drew ?_))); (case side2 => exact (Kd.R_reads' HO104.out).2.1); rintro e w10 ⟨rfl, hb⟩; refine ⟨_, rfl, ?_⟩; have n0_ := Aside0.mk (Kd.R_below (by (with_reducible repeat (first | apply Kd.R_alloc | apply Kd.R_drewN | apply Kd.R_drew)); exact HO104.out) hb); have n1_ := Aside0.mk (below_step (by repeat (first | (with_reducible first | exact HB.out | apply below_alloc | apply pw_below_drewN | apply below_drew1) | exact HB.out)) hb); clear HO104; clear HB; have HO104 := n0_; have HB := n1_; clear n0_ n1_; (try clear hb); (try clear hb2); (try clear hk); (try clear hi)) | ((with_reducible refine gate_callee (f := 13) rfl ?_); refine goesL_ (some 8) rfl rfl Try.func13 (by kernel_rfl) rfl #[.int .u32 2, .int .u32 4294967295] rfl (by (try simp only [List.map_toArray, List.map_cons, List.map_nil]); first | done | rfl | (simp only [List.length_drop, List.length_take]; rfl)) ?_; (with_reducible refine (serial_After.calls 2 4294967295 true _ A2.out).mono ?_); rintro e w' ⟨rfl, ⟨nd, rfl⟩⟩; refine ⟨_, rfl, ?_⟩) | (go_at_call 15; (with_reducible refine (serial_Diff.calls 2 4294967295 t108 _ A4.out).mono ?_); rintro e w' ⟨rfl, ⟨nd, rfl⟩⟩))
        go_ret
        exact ⟨by first | rfl | (simp [errW_none, errW_some] <;> rfl) | (simp [*, errW_none, errW_some] <;> rfl), by repeat (first | (with_reducible first | exact HB.out | apply below_alloc | apply pw_below_drewN | apply below_drew1) | exact HB.out)⟩
      · rw [if_neg c6] at H
        have c6b0 : (t105 == 1) = false := beq_eq_false_iff_ne.mpr c6
        have c6b1 : (t105 != 1) = true := bne_iff_ne.mpr c6
        obtain rfl := Option.some.inj H
        go_enter Try.func8, Try.ntmps8
        go_wp2_with (first | ((with_reducible refine gate_dst (N := 4) rfl ?_); refine Kd.R_lit (Kd.int .u32) _ 22 ?hg (N := 4) ?hd (xs := ([4294967294, 1, 4294967295] : List Int)) (inner := [.int .u32 4294967294, .int .u32 1, .int .u32 4294967295]) (ok := fun _ => True) (okp := fun _ => True) ?hr ?hp (fun _ hk => hk) trivial (Below.refl _ _) (Nat.le_refl _) (by simp) ?_; (case hd => rfl); (case hg => rfl); (case hr => first | (go_simp; done) | (go_simp; rfl)); (case hp => exact (Reps.one (show Kd.M (Kd.int .u32) _ _ _ 4294967294 [.int .u32 4294967294] from rfl) (Reps.one (show Kd.M (Kd.int .u32) _ _ _ 1 [.int .u32 1] from rfl) (Reps.one (show Kd.M (Kd.int .u32) _ _ _ 4294967295 [.int .u32 4294967295] from rfl) (Reps.none _ _))))); intro v103 w11 ho12 hb hg_ hnew_; clear hg_ hnew_; (first | rw [← Ny102.out] at ho12 | (simp only [Int.reduceToNat] at ho12; rw [← Ny102.out] at ho12)); have n0_ := Aside0.mk (Kd.R_lower ho12 (below_size (by repeat (first | (with_reducible first | exact HB.out | apply below_alloc | apply pw_below_drewN | apply below_drew1) | exact HB.out)))); have n1_ := Aside0.mk (below_step (by repeat (first | (with_reducible first | exact HB.out | apply below_alloc | apply pw_below_drewN | apply below_drew1) | exact HB.out)) hb); clear HB; have HO104 := n0_; have HB := n1_; clear n0_ n1_; clear hb ho12; obtain ⟨Ao13, co13, eo13⟩ := Kd.R_slice HO104.out; subst eo13) | ((with_reducible refine gate_callee (f := 17) rfl ?_); refine goesL_ (some 5) rfl rfl Try.func17 (by kernel_rfl) rfl #[.slice Ao13 y102.length co13] rfl (by (try simp only [List.map_toArray, List.map_cons, List.map_nil]); first | done | rfl | (simp only [List.length_drop, List.length_take]; rfl)) ?_; (with_reducible refine (serial_Newest.calls _ _ y102 t105 t106 _ ?side1 ?side2 A1.out).mono ?_); (case side1 => repeat (first | exact (Kd.R_reads' HO104.out).2.2 | (with_reducible refine Kd.C_alloc ?_ _) | (with_reducible refine Kd.C_drewN ?_ _) | (with_reducible refine Kd.C_drew ?_))); (case side2 => exact (Kd.R_reads' HO104.out).2.1); rintro e w14 ⟨rfl, hb⟩; refine ⟨_, rfl, ?_⟩; have n0_ := Aside0.mk (Kd.R_below (by (with_reducible repeat (first | apply Kd.R_alloc | apply Kd.R_drewN | apply Kd.R_drew)); exact HO104.out) hb); have n1_ := Aside0.mk (below_step (by repeat (first | (with_reducible first | exact HB.out | apply below_alloc | apply pw_below_drewN | apply below_drew1) | exact HB.out)) hb); clear HO104; clear HB; have HO104 := n0_; have HB := n1_; clear n0_ n1_; (try clear hb); (try clear hb2); (try clear hk); (try clear hi)) | ((with_reducible refine gate_callee (f := 13) rfl ?_); refine goesL_ (some 8) rfl rfl Try.func13 (by kernel_rfl) rfl #[.int .u32 2, .int .u32 4294967295] rfl (by (try simp only [List.map_toArray, List.map_cons, List.map_nil]); first | done | rfl | (simp only [List.length_drop, List.length_take]; rfl)) ?_; (with_reducible refine (serial_After.calls 2 4294967295 true _ A2.out).mono ?_); rintro e w' ⟨rfl, ⟨nd, rfl⟩⟩; refine ⟨_, rfl, ?_⟩) | (go_at_call 15; (with_reducible refine (serial_Diff.calls 2 4294967295 t108 _ A4.out).mono ?_); rintro e w' ⟨rfl, ⟨nd, rfl⟩⟩))
        go_ret
        exact ⟨by first | rfl | (simp [errW_none, errW_some] <;> rfl) | (simp [*, errW_none, errW_some] <;> rfl), by repeat (first | (with_reducible first | exact HB.out | apply below_alloc | apply pw_below_drewN | apply below_drew1) | exact HB.out)⟩
    · rw [if_neg c5] at H
      have c5b0 : (t108 == 3) = false := beq_eq_false_iff_ne.mpr c5
      have c5b1 : (t108 != 3) = true := bne_iff_ne.mpr c5
      obtain rfl := Option.some.inj H
      go_enter Try.func8, Try.ntmps8
      go_wp2_with (first | ((with_reducible refine gate_dst (N := 4) rfl ?_); refine Kd.R_lit (Kd.int .u32) _ 22 ?hg (N := 4) ?hd (xs := ([4294967294, 1, 4294967295] : List Int)) (inner := [.int .u32 4294967294, .int .u32 1, .int .u32 4294967295]) (ok := fun _ => True) (okp := fun _ => True) ?hr ?hp (fun _ hk => hk) trivial (Below.refl _ _) (Nat.le_refl _) (by simp) ?_; (case hd => rfl); (case hg => rfl); (case hr => first | (go_simp; done) | (go_simp; rfl)); (case hp => exact (Reps.one (show Kd.M (Kd.int .u32) _ _ _ 4294967294 [.int .u32 4294967294] from rfl) (Reps.one (show Kd.M (Kd.int .u32) _ _ _ 1 [.int .u32 1] from rfl) (Reps.one (show Kd.M (Kd.int .u32) _ _ _ 4294967295 [.int .u32 4294967295] from rfl) (Reps.none _ _))))); intro v103 w15 ho16 hb hg_ hnew_; clear hg_ hnew_; (first | rw [← Ny102.out] at ho16 | (simp only [Int.reduceToNat] at ho16; rw [← Ny102.out] at ho16)); have n0_ := Aside0.mk (Kd.R_lower ho16 (below_size (by repeat (first | (with_reducible first | exact HB.out | apply below_alloc | apply pw_below_drewN | apply below_drew1) | exact HB.out)))); have n1_ := Aside0.mk (below_step (by repeat (first | (with_reducible first | exact HB.out | apply below_alloc | apply pw_below_drewN | apply below_drew1) | exact HB.out)) hb); clear HB; have HO104 := n0_; have HB := n1_; clear n0_ n1_; clear hb ho16; obtain ⟨Ao17, co17, eo17⟩ := Kd.R_slice HO104.out; subst eo17) | ((with_reducible refine gate_callee (f := 17) rfl ?_); refine goesL_ (some 5) rfl rfl Try.func17 (by kernel_rfl) rfl #[.slice Ao17 y102.length co17] rfl (by (try simp only [List.map_toArray, List.map_cons, List.map_nil]); first | done | rfl | (simp only [List.length_drop, List.length_take]; rfl)) ?_; (with_reducible refine (serial_Newest.calls _ _ y102 t105 t106 _ ?side1 ?side2 A1.out).mono ?_); (case side1 => repeat (first | exact (Kd.R_reads' HO104.out).2.2 | (with_reducible refine Kd.C_alloc ?_ _) | (with_reducible refine Kd.C_drewN ?_ _) | (with_reducible refine Kd.C_drew ?_))); (case side2 => exact (Kd.R_reads' HO104.out).2.1); rintro e w18 ⟨rfl, hb⟩; refine ⟨_, rfl, ?_⟩; have n0_ := Aside0.mk (Kd.R_below (by (with_reducible repeat (first | apply Kd.R_alloc | apply Kd.R_drewN | apply Kd.R_drew)); exact HO104.out) hb); have n1_ := Aside0.mk (below_step (by repeat (first | (with_reducible first | exact HB.out | apply below_alloc | apply pw_below_drewN | apply below_drew1) | exact HB.out)) hb); clear HO104; clear HB; have HO104 := n0_; have HB := n1_; clear n0_ n1_; (try clear hb); (try clear hb2); (try clear hk); (try clear hi)) | ((with_reducible refine gate_callee (f := 13) rfl ?_); refine goesL_ (some 8) rfl rfl Try.func13 (by kernel_rfl) rfl #[.int .u32 2, .int .u32 4294967295] rfl (by (try simp only [List.map_toArray, List.map_cons, List.map_nil]); first | done | rfl | (simp only [List.length_drop, List.length_take]; rfl)) ?_; (with_reducible refine (serial_After.calls 2 4294967295 true _ A2.out).mono ?_); rintro e w' ⟨rfl, ⟨nd, rfl⟩⟩; refine ⟨_, rfl, ?_⟩) | (go_at_call 15; (with_reducible refine (serial_Diff.calls 2 4294967295 t108 _ A4.out).mono ?_); rintro e w' ⟨rfl, ⟨nd, rfl⟩⟩))
      go_ret
      exact ⟨by first | rfl | (simp [errW_none, errW_some] <;> rfl) | (simp [*, errW_none, errW_some] <;> rfl), by repeat (first | (with_reducible first | exact HB.out | apply below_alloc | apply pw_below_drewN | apply below_drew1) | exact HB.out)⟩
  · replace c3 := Bool.eq_false_iff.mpr c3
    subst c3
    have H1 : (some false) = some r := by rw [if_neg (show ¬ (false = true) by decide)] at H; exact H
    clear H
    have H := H1
    clear H1
    obtain rfl := Option.some.inj H
    go_enter Try.func8, Try.ntmps8
    go_wp2_with (first | ((with_reducible refine gate_dst (N := 4) rfl ?_); refine Kd.R_lit (Kd.int .u32) _ 22 ?hg (N := 4) ?hd (xs := ([4294967294, 1, 4294967295] : List Int)) (inner := [.int .u32 4294967294, .int .u32 1, .int .u32 4294967295]) (ok := fun _ => True) (okp := fun _ => True) ?hr ?hp (fun _ hk => hk) trivial (Below.refl _ _) (Nat.le_refl _) (by simp) ?_; (case hd => rfl); (case hg => rfl); (case hr => first | (go_simp; done) | (go_simp; rfl)); (case hp => exact (Reps.one (show Kd.M (Kd.int .u32) _ _ _ 4294967294 [.int .u32 4294967294] from rfl) (Reps.one (show Kd.M (Kd.int .u32) _ _ _ 1 [.int .u32 1] from rfl) (Reps.one (show Kd.M (Kd.int .u32) _ _ _ 4294967295 [.int .u32 4294967295] from rfl) (Reps.none _ _))))); intro v103 w19 ho20 hb hg_ hnew_; clear hg_ hnew_; (first | rw [← Ny102.out] at ho20 | (simp only [Int.reduceToNat] at ho20; rw [← Ny102.out] at ho20)); have n0_ := Aside0.mk (Kd.R_lower ho20 (below_size (by repeat (first | (with_reducible first | exact HB.out | apply below_alloc | apply pw_below_drewN | apply below_drew1) | exact HB.out)))); have n1_ := Aside0.mk (below_step (by repeat (first | (with_reducible first | exact HB.out | apply below_alloc | apply pw_below_drewN | apply below_drew1) | exact HB.out)) hb); clear HB; have HO104 := n0_; have HB := n1_; clear n0_ n1_; clear hb ho20; obtain ⟨Ao21, co21, eo21⟩ := Kd.R_slice HO104.out; subst eo21) | ((with_reducible refine gate_callee (f := 17) rfl ?_); refine goesL_ (some 5) rfl rfl Try.func17 (by kernel_rfl) rfl #[.slice Ao21 y102.length co21] rfl (by (try simp only [List.map_toArray, List.map_cons, List.map_nil]); first | done | rfl | (simp only [List.length_drop, List.length_take]; rfl)) ?_; (with_reducible refine (serial_Newest.calls _ _ y102 t105 t106 _ ?side1 ?side2 A1.out).mono ?_); (case side1 => repeat (first | exact (Kd.R_reads' HO104.out).2.2 | (with_reducible refine Kd.C_alloc ?_ _) | (with_reducible refine Kd.C_drewN ?_ _) | (with_reducible refine Kd.C_drew ?_))); (case side2 => exact (Kd.R_reads' HO104.out).2.1); rintro e w22 ⟨rfl, hb⟩; refine ⟨_, rfl, ?_⟩; have n0_ := Aside0.mk (Kd.R_below (by (with_reducible repeat (first | apply Kd.R_alloc | apply Kd.R_drewN | apply Kd.R_drew)); exact HO104.out) hb); have n1_ := Aside0.mk (below_step (by repeat (first | (with_reducible first | exact HB.out | apply below_alloc | apply pw_below_drewN | apply below_drew1) | exact HB.out)) hb); clear HO104; clear HB; have HO104 := n0_; have HB := n1_; clear n0_ n1_; (try clear hb); (try clear hb2); (try clear hk); (try clear hi)) | ((with_reducible refine gate_callee (f := 13) rfl ?_); refine goesL_ (some 8) rfl rfl Try.func13 (by kernel_rfl) rfl #[.int .u32 2, .int .u32 4294967295] rfl (by (try simp only [List.map_toArray, List.map_cons, List.map_nil]); first | done | rfl | (simp only [List.length_drop, List.length_take]; rfl)) ?_; (with_reducible refine (serial_After.calls 2 4294967295 false _ A2.out).mono ?_); rintro e w' ⟨rfl, ⟨nd, rfl⟩⟩; refine ⟨_, rfl, ?_⟩))
    go_ret
    exact ⟨by first | rfl | (simp [errW_none, errW_some] <;> rfl) | (simp [*, errW_none, errW_some] <;> rfl), by repeat (first | (with_reducible first | exact HB.out | apply below_alloc | apply pw_below_drewN | apply below_drew1) | exact HB.out)⟩

/-! ### serial_Way: function 9 -/
def serial_Way.f (a0 : Int) (a1 : Int) : Option (Int) := some ((a1 - a0) % 4294967296)
set_option maxHeartbeats 8000000 in
set_option maxRecDepth 100000 in
theorem serial_Way.calls (a0 : Int) (a1 : Int) (r : Int) (w : World) (h : serial_Way.f a0 a1 = some r) :
    Calls Try.prog 9 #[.int .u32 a0, .int .u32 a1] w fun e w' => e = .returned (.int .u32 r) ∧ Drawn0 w w' := by
  have H : (some ((a1 - a0) % 4294967296)) = some r := h
  clear h
  obtain rfl := Option.some.inj H
  go_enter Try.func9, Try.ntmps9
  go_wp2
  go_ret
  exact ⟨by first | rfl | (simp; done) | (simp [*]; done), by repeat (first | exact Drawn0.refl _ | apply Drawn0.step)⟩

/-! ### cuneiformref10_Way: function 10 -/
def cuneiformref10_Way.f (a0 : Int) (a1 : Int) : Option (Int) := some ((Int.tmod (IntKind.u64.wrap ((IntKind.u64.wrap ((IntKind.u64.wrap (a1)) + 4294967296)) - (IntKind.u64.wrap (a0)))) 4294967296) % 4294967296)
set_option maxHeartbeats 8000000 in
set_option maxRecDepth 100000 in
theorem cuneiformref10_Way.calls (a0 : Int) (a1 : Int) (r : Int) (w : World) (h : cuneiformref10_Way.f a0 a1 = some r) :
    Calls Try.prog 10 #[.int .u32 a0, .int .u32 a1] w fun e w' => e = .returned (.int .u32 r) ∧ Drawn0 w w' := by
  have H : (some ((Int.tmod (IntKind.u64.wrap ((IntKind.u64.wrap ((IntKind.u64.wrap (a1)) + 4294967296)) - (IntKind.u64.wrap (a0)))) 4294967296) % 4294967296)) = some r := h
  clear h
  obtain rfl := Option.some.inj H
  go_enter Try.func10, Try.ntmps10
  go_wp2
  go_ret
  exact ⟨by first | rfl | (simp; done) | (simp [*]; done), by repeat (first | exact Drawn0.refl _ | apply Drawn0.step)⟩

/-! ### serial_Add: function 11 -/
def serial_Add.f (a0 : Int) (a1 : Int) : Option (Int) := some ((a0 + ((a1) % 4294967296)) % 4294967296)
set_option maxHeartbeats 8000000 in
set_option maxRecDepth 100000 in
theorem serial_Add.calls (a0 : Int) (a1 : Int) (r : Int) (w : World) (h : serial_Add.f a0 a1 = some r) :
    Calls Try.prog 11 #[.int .u32 a0, .int .i64 a1] w fun e w' => e = .returned (.int .u32 r) ∧ Drawn0 w w' := by
  have H : (some ((a0 + ((a1) % 4294967296)) % 4294967296)) = some r := h
  clear h
  obtain rfl := Option.some.inj H
  go_enter Try.func11, Try.ntmps11
  go_wp2
  go_ret
  exact ⟨by first | rfl | (simp; done) | (simp [*]; done), by repeat (first | exact Drawn0.refl _ | apply Drawn0.step)⟩

/-! ### cuneiformref10_Add: function 12 -/
def cuneiformref10_Add.f (a0 : Int) (a1 : Int) : Option (Int) := if (Int.tmod a1 4294967296) < 0 then (some ((Int.tmod (IntKind.u64.wrap ((IntKind.u64.wrap (a0)) + (IntKind.u64.wrap (wrap64 ((Int.tmod a1 4294967296) + 4294967296))))) 4294967296) % 4294967296)) else (some ((Int.tmod (IntKind.u64.wrap ((IntKind.u64.wrap (a0)) + (IntKind.u64.wrap (Int.tmod a1 4294967296)))) 4294967296) % 4294967296))
set_option maxHeartbeats 8000000 in
set_option maxRecDepth 100000 in
theorem cuneiformref10_Add.calls (a0 : Int) (a1 : Int) (r : Int) (w : World) (h : cuneiformref10_Add.f a0 a1 = some r) :
    Calls Try.prog 12 #[.int .u32 a0, .int .i64 a1] w fun e w' => e = .returned (.int .u32 r) ∧ Drawn0 w w' := by
  have H : (if (Int.tmod a1 4294967296) < 0 then (some ((Int.tmod (IntKind.u64.wrap ((IntKind.u64.wrap (a0)) + (IntKind.u64.wrap (wrap64 ((Int.tmod a1 4294967296) + 4294967296))))) 4294967296) % 4294967296)) else (some ((Int.tmod (IntKind.u64.wrap ((IntKind.u64.wrap (a0)) + (IntKind.u64.wrap (Int.tmod a1 4294967296)))) 4294967296) % 4294967296))) = some r := h
  clear h
  by_cases c3 : (Int.tmod a1 4294967296) < 0
  · rw [if_pos c3] at H
    have c3b0 : decide ((Int.tmod a1 4294967296) < 0) = true := decide_eq_true c3
    clear c3
    obtain rfl := Option.some.inj H
    go_enter Try.func12, Try.ntmps12
    go_wp2
    go_ret
    exact ⟨by first | rfl | (simp; done) | (simp [*]; done), by repeat (first | exact Drawn0.refl _ | apply Drawn0.step)⟩
  · rw [if_neg c3] at H
    have c3b0 : decide ((Int.tmod a1 4294967296) < 0) = false := decide_eq_false c3
    clear c3
    obtain rfl := Option.some.inj H
    go_enter Try.func12, Try.ntmps12
    go_wp2
    go_ret
    exact ⟨by first | rfl | (simp; done) | (simp [*]; done), by repeat (first | exact Drawn0.refl _ | apply Drawn0.step)⟩

/-! ### cuneiformref10_After: function 14 -/
def cuneiformref10_After.f (a0 : Int) (a1 : Int) : Option (Bool) := (cuneiformref10_Way.f a1 a0).bind fun t109 => (if t109 ≥ 1 then ((cuneiformref10_Way.f a1 a0).bind fun t110 => (some (decide (t110 < 2147483648)))) else (some false))
set_option maxHeartbeats 8000000 in
set_option maxRecDepth 100000 in
theorem cuneiformref10_After.calls (a0 : Int) (a1 : Int) (r : Bool) (w : World) (h : cuneiformref10_After.f a0 a1 = some r) :
    Calls Try.prog 14 #[.int .u32 a0, .int .u32 a1] w fun e w' => e = .returned (.bool r) ∧ Drawn0 w w' := by
  have H : ((cuneiformref10_Way.f a1 a0).bind fun t109 => (if t109 ≥ 1 then ((cuneiformref10_Way.f a1 a0).bind fun t110 => (some (decide (t110 < 2147483648)))) else (some false))) = some r := h
  clear h
  replace H := Option.bind_eq_some_iff.mp H
  obtain ⟨t109, A30, H⟩ := H
  replace H : (if t109 ≥ 1 then ((cuneiformref10_Way.f a1 a0).bind fun t110 => (some (decide (t110 < 2147483648)))) else (some false)) = some r := H
  have A3 := Aside0.mk A30
  clear A30
  by_cases c4 : t109 ≥ 1
  · rw [if_pos c4] at H
    have c4b0 : decide (1 ≤ t109) = true := decide_eq_true c4
    clear c4
    replace H := Option.bind_eq_some_iff.mp H
    obtain ⟨t110, A50, H⟩ := H
    replace H : (some (decide (t110 < 2147483648))) = some r := H
    have A5 := Aside0.mk A50
    clear A50
    obtain rfl := Option.some.inj H
    go_enter Try.func14, Try.ntmps14
    go_wp2_with (first | ((with_reducible refine gate_callee (f := 10) rfl ?_); refine goesL_ (some 7) rfl rfl Try.func10 (by kernel_rfl) rfl #[.int .u32 a1, .int .u32 a0] rfl (by (try simp only [List.map_toArray, List.map_cons, List.map_nil]); first | done | rfl | (simp only [List.length_drop, List.length_take]; rfl)) ?_; (with_reducible refine (cuneiformref10_Way.calls a1 a0 t109 _ A3.out).mono ?_); rintro e w' ⟨rfl, ⟨nd, rfl⟩⟩; refine ⟨_, rfl, ?_⟩) | (go_at_call 10; (with_reducible refine (cuneiformref10_Way.calls a1 a0 t110 _ A5.out).mono ?_); rintro e w' ⟨rfl, ⟨nd, rfl⟩⟩))
    go_ret
    exact ⟨by first | rfl | (simp; done) | (simp [*]; done), by repeat (first | exact Drawn0.refl _ | apply Drawn0.step)⟩
  · rw [if_neg c4] at H
    have c4b0 : decide (1 ≤ t109) = false := decide_eq_false c4
    clear c4
    obtain rfl := Option.some.inj H
    go_enter Try.func14, Try.ntmps14
    go_wp2_with (first | ((with_reducible refine gate_callee (f := 10) rfl ?_); refine goesL_ (some 7) rfl rfl Try.func10 (by kernel_rfl) rfl #[.int .u32 a1, .int .u32 a0] rfl (by (try simp only [List.map_toArray, List.map_cons, List.map_nil]); first | done | rfl | (simp only [List.length_drop, List.length_take]; rfl)) ?_; (with_reducible refine (cuneiformref10_Way.calls a1 a0 t109 _ A3.out).mono ?_); rintro e w' ⟨rfl, ⟨nd, rfl⟩⟩; refine ⟨_, rfl, ?_⟩))
    go_ret
    exact ⟨by first | rfl | (simp; done) | (simp [*]; done), by repeat (first | exact Drawn0.refl _ | apply Drawn0.step)⟩

/-! ### cuneiformref10_Diff: function 16 -/
def cuneiformref10_Diff.f (a0 : Int) (a1 : Int) : Option (Int) := (cuneiformref10_Way.f a1 a0).bind fun t111 => (if (wrap64 (t111)) ≥ 2147483648 then (some (wrap64 ((wrap64 (t111)) - 4294967296))) else (some (wrap64 (t111))))
set_option maxHeartbeats 8000000 in
set_option maxRecDepth 100000 in
theorem cuneiformref10_Diff.calls (a0 : Int) (a1 : Int) (r : Int) (w : World) (h : cuneiformref10_Diff.f a0 a1 = some r) :
    Calls Try.prog 16 #[.int .u32 a0, .int .u32 a1] w fun e w' => e = .returned (.int .i64 r) ∧ Drawn0 w w' := by
  have H : ((cuneiformref10_Way.f a1 a0).bind fun t111 => (if (wrap64 (t111)) ≥ 2147483648 then (some (wrap64 ((wrap64 (t111)) - 4294967296))) else (some (wrap64 (t111))))) = some r := h
  clear h
  replace H := Option.bind_eq_some_iff.mp H
  obtain ⟨t111, A30, H⟩ := H
  replace H : (if (wrap64 (t111)) ≥ 2147483648 then (some (wrap64 ((wrap64 (t111)) - 4294967296))) else (some (wrap64 (t111)))) = some r := H
  have A3 := Aside0.mk A30
  clear A30
  by_cases c4 : (wrap64 (t111)) ≥ 2147483648
  · rw [if_pos c4] at H
    have c4b0 : decide (2147483648 ≤ (wrap64 (t111))) = true := decide_eq_true c4
    clear c4
    obtain rfl := Option.some.inj H
    go_enter Try.func16, Try.ntmps16
    go_wp2_with (first | ((with_reducible refine gate_callee (f := 10) rfl ?_); refine goesL_ (some 8) rfl rfl Try.func10 (by kernel_rfl) rfl #[.int .u32 a1, .int .u32 a0] rfl (by (try simp only [List.map_toArray, List.map_cons, List.map_nil]); first | done | rfl | (simp only [List.length_drop, List.length_take]; rfl)) ?_; (with_reducible refine (cuneiformref10_Way.calls a1 a0 t111 _ A3.out).mono ?_); rintro e w' ⟨rfl, ⟨nd, rfl⟩⟩; refine ⟨_, rfl, ?_⟩))
    go_ret
    exact ⟨by first | rfl | (simp; done) | (simp [*]; done), by repeat (first | exact Drawn0.refl _ | apply Drawn0.step)⟩
  · rw [if_neg c4] at H
    have c4b0 : decide (2147483648 ≤ (wrap64 (t111))) = false := decide_eq_false c4
    clear c4
    obtain rfl := Option.some.inj H
    go_enter Try.func16, Try.ntmps16
    go_wp2_with (first | ((with_reducible refine gate_callee (f := 10) rfl ?_); refine goesL_ (some 8) rfl rfl Try.func10 (by kernel_rfl) rfl #[.int .u32 a1, .int .u32 a0] rfl (by (try simp only [List.map_toArray, List.map_cons, List.map_nil]); first | done | rfl | (simp only [List.length_drop, List.length_take]; rfl)) ?_; (with_reducible refine (cuneiformref10_Way.calls a1 a0 t111 _ A3.out).mono ?_); rintro e w' ⟨rfl, ⟨nd, rfl⟩⟩; refine ⟨_, rfl, ?_⟩))
    go_ret
    exact ⟨by first | rfl | (simp; done) | (simp [*]; done), by repeat (first | exact Drawn0.refl _ | apply Drawn0.step)⟩

/-! ### cuneiformlaw10_SerialWays: function 3 -/
def cuneiformlaw10_SerialWays.f (a0 : Int) (a1 : Int) (a2 : Int) : Option (Bool) := (cuneiformlaw10_known.f).bind fun t112 => (if t112 = true then ((serial_Way.f a0 a1).bind fun t113 => ((cuneiformref10_Way.f a0 a1).bind fun t114 => (if t113 = t114 then ((serial_Add.f a0 a2).bind fun t115 => ((cuneiformref10_Add.f a0 a2).bind fun t116 => (if t115 = t116 then ((serial_After.f a0 a1).bind fun t117 => ((cuneiformref10_After.f a0 a1).bind fun t118 => (if (t117 == t118) = true then ((serial_After.f a1 a0).bind fun t119 => ((cuneiformref10_After.f a1 a0).bind fun t120 => (if (t119 == t120) = true then ((serial_Diff.f a0 a1).bind fun t121 => ((cuneiformref10_Diff.f a0 a1).bind fun t122 => (if t121 = t122 then ((serial_Diff.f a0 a1).bind fun t123 => ((serial_Add.f a1 t123).bind fun t124 => (if t124 = a0 then ((serial_Add.f a0 7).bind fun t125 => ((serial_Way.f a0 t125).bind fun t126 => (some (t126 == 7)))) else (some false)))) else (some false)))) else (some false)))) else (some false)))) else (some false)))) else (some false)))) else (some false))
set_option maxHeartbeats 8000000 in
set_option maxRecDepth 100000 in
theorem cuneiformlaw10_SerialWays.calls (a0 : Int) (a1 : Int) (a2 : Int) (r : Bool) (w : World) (h : cuneiformlaw10_SerialWays.f a0 a1 a2 = some r) :
    Calls Try.prog 3 #[.int .u32 a0, .int .u32 a1, .int .i64 a2] w fun e w' => e = .returned (.bool r) ∧ Below w.heap.size w w' := by
  have HB := Aside0.mk (Below.refl w.heap.size w)
  have H : ((cuneiformlaw10_known.f).bind fun t112 => (if t112 = true then ((serial_Way.f a0 a1).bind fun t113 => ((cuneiformref10_Way.f a0 a1).bind fun t114 => (if t113 = t114 then ((serial_Add.f a0 a2).bind fun t115 => ((cuneiformref10_Add.f a0 a2).bind fun t116 => (if t115 = t116 then ((serial_After.f a0 a1).bind fun t117 => ((cuneiformref10_After.f a0 a1).bind fun t118 => (if (t117 == t118) = true then ((serial_After.f a1 a0).bind fun t119 => ((cuneiformref10_After.f a1 a0).bind fun t120 => (if (t119 == t120) = true then ((serial_Diff.f a0 a1).bind fun t121 => ((cuneiformref10_Diff.f a0 a1).bind fun t122 => (if t121 = t122 then ((serial_Diff.f a0 a1).bind fun t123 => ((serial_Add.f a1 t123).bind fun t124 => (if t124 = a0 then ((serial_Add.f a0 7).bind fun t125 => ((serial_Way.f a0 t125).bind fun t126 => (some (t126 == 7)))) else (some false)))) else (some false)))) else (some false)))) else (some false)))) else (some false)))) else (some false)))) else (some false))) = some r := h
  clear h
  replace H := Option.bind_eq_some_iff.mp H
  obtain ⟨t112, A40, H⟩ := H
  replace H : (if t112 = true then ((serial_Way.f a0 a1).bind fun t113 => ((cuneiformref10_Way.f a0 a1).bind fun t114 => (if t113 = t114 then ((serial_Add.f a0 a2).bind fun t115 => ((cuneiformref10_Add.f a0 a2).bind fun t116 => (if t115 = t116 then ((serial_After.f a0 a1).bind fun t117 => ((cuneiformref10_After.f a0 a1).bind fun t118 => (if (t117 == t118) = true then ((serial_After.f a1 a0).bind fun t119 => ((cuneiformref10_After.f a1 a0).bind fun t120 => (if (t119 == t120) = true then ((serial_Diff.f a0 a1).bind fun t121 => ((cuneiformref10_Diff.f a0 a1).bind fun t122 => (if t121 = t122 then ((serial_Diff.f a0 a1).bind fun t123 => ((serial_Add.f a1 t123).bind fun t124 => (if t124 = a0 then ((serial_Add.f a0 7).bind fun t125 => ((serial_Way.f a0 t125).bind fun t126 => (some (t126 == 7)))) else (some false)))) else (some false)))) else (some false)))) else (some false)))) else (some false)))) else (some false)))) else (some false)) = some r := H
  have A4 := Aside0.mk A40
  clear A40
  by_cases c5 : t112 = true
  · subst c5
    have H1 : ((serial_Way.f a0 a1).bind fun t113 => ((cuneiformref10_Way.f a0 a1).bind fun t114 => (if t113 = t114 then ((serial_Add.f a0 a2).bind fun t115 => ((cuneiformref10_Add.f a0 a2).bind fun t116 => (if t115 = t116 then ((serial_After.f a0 a1).bind fun t117 => ((cuneiformref10_After.f a0 a1).bind fun t118 => (if (t117 == t118) = true then ((serial_After.f a1 a0).bind fun t119 => ((cuneiformref10_After.f a1 a0).bind fun t120 => (if (t119 == t120) = true then ((serial_Diff.f a0 a1).bind fun t121 => ((cuneiformref10_Diff.f a0 a1).bind fun t122 => (if t121 = t122 then ((serial_Diff.f a0 a1).bind fun t123 => ((serial_Add.f a1 t123).bind fun t124 => (if t124 = a0 then ((serial_Add.f a0 7).bind fun t125 => ((serial_Way.f a0 t125).bind fun t126 => (some (t126 == 7)))) else (some false)))) else (some false)))) else (some false)))) else (some false)))) else (some false)))) else (some false)))) = some r := by rw [if_pos rfl] at H; exact H
    clear H
    have H := H1
    clear H1
    replace H := Option.bind_eq_some_iff.mp H
    obtain ⟨t113, A60, H⟩ := H
    replace H : ((cuneiformref10_Way.f a0 a1).bind fun t114 => (if t113 = t114 then ((serial_Add.f a0 a2).bind fun t115 => ((cuneiformref10_Add.f a0 a2).bind fun t116 => (if t115 = t116 then ((serial_After.f a0 a1).bind fun t117 => ((cuneiformref10_After.f a0 a1).bind fun t118 => (if (t117 == t118) = true then ((serial_After.f a1 a0).bind fun t119 => ((cuneiformref10_After.f a1 a0).bind fun t120 => (if (t119 == t120) = true then ((serial_Diff.f a0 a1).bind fun t121 => ((cuneiformref10_Diff.f a0 a1).bind fun t122 => (if t121 = t122 then ((serial_Diff.f a0 a1).bind fun t123 => ((serial_Add.f a1 t123).bind fun t124 => (if t124 = a0 then ((serial_Add.f a0 7).bind fun t125 => ((serial_Way.f a0 t125).bind fun t126 => (some (t126 == 7)))) else (some false)))) else (some false)))) else (some false)))) else (some false)))) else (some false)))) else (some false))) = some r := H
    have A6 := Aside0.mk A60
    clear A60
    replace H := Option.bind_eq_some_iff.mp H
    obtain ⟨t114, A70, H⟩ := H
    replace H : (if t113 = t114 then ((serial_Add.f a0 a2).bind fun t115 => ((cuneiformref10_Add.f a0 a2).bind fun t116 => (if t115 = t116 then ((serial_After.f a0 a1).bind fun t117 => ((cuneiformref10_After.f a0 a1).bind fun t118 => (if (t117 == t118) = true then ((serial_After.f a1 a0).bind fun t119 => ((cuneiformref10_After.f a1 a0).bind fun t120 => (if (t119 == t120) = true then ((serial_Diff.f a0 a1).bind fun t121 => ((cuneiformref10_Diff.f a0 a1).bind fun t122 => (if t121 = t122 then ((serial_Diff.f a0 a1).bind fun t123 => ((serial_Add.f a1 t123).bind fun t124 => (if t124 = a0 then ((serial_Add.f a0 7).bind fun t125 => ((serial_Way.f a0 t125).bind fun t126 => (some (t126 == 7)))) else (some false)))) else (some false)))) else (some false)))) else (some false)))) else (some false)))) else (some false)) = some r := H
    have A7 := Aside0.mk A70
    clear A70
    by_cases c8 : t113 = t114
    · rw [if_pos c8] at H
      have c8b0 : (t113 == t114) = true := beq_iff_eq.mpr c8
      have c8b1 : (t113 != t114) = false := bne_eq_false_iff_eq.mpr c8
      clear c8
      replace H := Option.bind_eq_some_iff.mp H
      obtain ⟨t115, A90, H⟩ := H
      replace H : ((cuneiformref10_Add.f a0 a2).bind fun t116 => (if t115 = t116 then ((serial_After.f a0 a1).bind fun t117 => ((cuneiformref10_After.f a0 a1).bind fun t118 => (if (t117 == t118) = true then ((serial_After.f a1 a0).bind fun t119 => ((cuneiformref10_After.f a1 a0).bind fun t120 => (if (t119 == t120) = true then ((serial_Diff.f a0 a1).bind fun t121 => ((cuneiformref10_Diff.f a0 a1).bind fun t122 => (if t121 = t122 then ((serial_Diff.f a0 a1).bind fun t123 => ((serial_Add.f a1 t123).bind fun t124 => (if t124 = a0 then ((serial_Add.f a0 7).bind fun t125 => ((serial_Way.f a0 t125).bind fun t126 => (some (t126 == 7)))) else (some false)))) else (some false)))) else (some false)))) else (some false)))) else (some false))) = some r := H
      have A9 := Aside0.mk A90
      clear A90
      replace H := Option.bind_eq_some_iff.mp H
      obtain ⟨t116, A100, H⟩ := H
      replace H : (if t115 = t116 then ((serial_After.f a0 a1).bind fun t117 => ((cuneiformref10_After.f a0 a1).bind fun t118 => (if (t117 == t118) = true then ((serial_After.f a1 a0).bind fun t119 => ((cuneiformref10_After.f a1 a0).bind fun t120 => (if (t119 == t120) = true then ((serial_Diff.f a0 a1).bind fun t121 => ((cuneiformref10_Diff.f a0 a1).bind fun t122 => (if t121 = t122 then ((serial_Diff.f a0 a1).bind fun t123 => ((serial_Add.f a1 t123).bind fun t124 => (if t124 = a0 then ((serial_Add.f a0 7).bind fun t125 => ((serial_Way.f a0 t125).bind fun t126 => (some (t126 == 7)))) else (some false)))) else (some false)))) else (some false)))) else (some false)))) else (some false)) = some r := H
      have A10 := Aside0.mk A100
      clear A100
      by_cases c11 : t115 = t116
      · rw [if_pos c11] at H
        have c11b0 : (t115 == t116) = true := beq_iff_eq.mpr c11
        have c11b1 : (t115 != t116) = false := bne_eq_false_iff_eq.mpr c11
        clear c11
        replace H := Option.bind_eq_some_iff.mp H
        obtain ⟨t117, A120, H⟩ := H
        replace H : ((cuneiformref10_After.f a0 a1).bind fun t118 => (if (t117 == t118) = true then ((serial_After.f a1 a0).bind fun t119 => ((cuneiformref10_After.f a1 a0).bind fun t120 => (if (t119 == t120) = true then ((serial_Diff.f a0 a1).bind fun t121 => ((cuneiformref10_Diff.f a0 a1).bind fun t122 => (if t121 = t122 then ((serial_Diff.f a0 a1).bind fun t123 => ((serial_Add.f a1 t123).bind fun t124 => (if t124 = a0 then ((serial_Add.f a0 7).bind fun t125 => ((serial_Way.f a0 t125).bind fun t126 => (some (t126 == 7)))) else (some false)))) else (some false)))) else (some false)))) else (some false))) = some r := H
        have A12 := Aside0.mk A120
        clear A120
        replace H := Option.bind_eq_some_iff.mp H
        obtain ⟨t118, A130, H⟩ := H
        replace H : (if (t117 == t118) = true then ((serial_After.f a1 a0).bind fun t119 => ((cuneiformref10_After.f a1 a0).bind fun t120 => (if (t119 == t120) = true then ((serial_Diff.f a0 a1).bind fun t121 => ((cuneiformref10_Diff.f a0 a1).bind fun t122 => (if t121 = t122 then ((serial_Diff.f a0 a1).bind fun t123 => ((serial_Add.f a1 t123).bind fun t124 => (if t124 = a0 then ((serial_Add.f a0 7).bind fun t125 => ((serial_Way.f a0 t125).bind fun t126 => (some (t126 == 7)))) else (some false)))) else (some false)))) else (some false)))) else (some false)) = some r := H
        have A13 := Aside0.mk A130
        clear A130
        by_cases c14 : (t117 == t118) = true
        · rw [if_pos c14] at H
          have c14b0 : (t117 == t118) = true := c14
          (try (have c14b1 : decide (t117 = t118) = true := by simpa using c14))
          (try (have c14b2 : (t117 == t118) = true := by simpa using c14))
          clear c14
          replace H := Option.bind_eq_some_iff.mp H
          obtain ⟨t119, A150, H⟩ := H
          replace H : ((cuneiformref10_After.f a1 a0).bind fun t120 => (if (t119 == t120) = true then ((serial_Diff.f a0 a1).bind fun t121 => ((cuneiformref10_Diff.f a0 a1).bind fun t122 => (if t121 = t122 then ((serial_Diff.f a0 a1).bind fun t123 => ((serial_Add.f a1 t123).bind fun t124 => (if t124 = a0 then ((serial_Add.f a0 7).bind fun t125 => ((serial_Way.f a0 t125).bind fun t126 => (some (t126 == 7)))) else (some false)))) else (some false)))) else (some false))) = some r := H
          have A15 := Aside0.mk A150
          clear A150
          replace H := Option.bind_eq_some_iff.mp H
          obtain ⟨t120, A160, H⟩ := H
          replace H : (if (t119 == t120) = true then ((serial_Diff.f a0 a1).bind fun t121 => ((cuneiformref10_Diff.f a0 a1).bind fun t122 => (if t121 = t122 then ((serial_Diff.f a0 a1).bind fun t123 => ((serial_Add.f a1 t123).bind fun t124 => (if t124 = a0 then ((serial_Add.f a0 7).bind fun t125 => ((serial_Way.f a0 t125).bind fun t126 => (some (t126 == 7)))) else (some false)))) else (some false)))) else (some false)) = some r := H
          have A16 := Aside0.mk A160
          clear A160
          by_cases c17 : (t119 == t120) = true
          · rw [if_pos c17] at H
            have c17b0 : (t119 == t120) = true := c17
            (try (have c17b1 : decide (t119 = t120) = true := by simpa using c17))
            (try (have c17b2 : (t119 == t120) = true := by simpa using c17))
            clear c17
            replace H := Option.bind_eq_some_iff.mp H
            obtain ⟨t121, A180, H⟩ := H
            replace H : ((cuneiformref10_Diff.f a0 a1).bind fun t122 => (if t121 = t122 then ((serial_Diff.f a0 a1).bind fun t123 => ((serial_Add.f a1 t123).bind fun t124 => (if t124 = a0 then ((serial_Add.f a0 7).bind fun t125 => ((serial_Way.f a0 t125).bind fun t126 => (some (t126 == 7)))) else (some false)))) else (some false))) = some r := H
            have A18 := Aside0.mk A180
            clear A180
            replace H := Option.bind_eq_some_iff.mp H
            obtain ⟨t122, A190, H⟩ := H
            replace H : (if t121 = t122 then ((serial_Diff.f a0 a1).bind fun t123 => ((serial_Add.f a1 t123).bind fun t124 => (if t124 = a0 then ((serial_Add.f a0 7).bind fun t125 => ((serial_Way.f a0 t125).bind fun t126 => (some (t126 == 7)))) else (some false)))) else (some false)) = some r := H
            have A19 := Aside0.mk A190
            clear A190
            by_cases c20 : t121 = t122
            · rw [if_pos c20] at H
              have c20b0 : (t121 == t122) = true := beq_iff_eq.mpr c20
              have c20b1 : (t121 != t122) = false := bne_eq_false_iff_eq.mpr c20
              clear c20
              replace H := Option.bind_eq_some_iff.mp H
              obtain ⟨t123, A210, H⟩ := H
              replace H : ((serial_Add.f a1 t123).bind fun t124 => (if t124 = a0 then ((serial_Add.f a0 7).bind fun t125 => ((serial_Way.f a0 t125).bind fun t126 => (some (t126 == 7)))) else (some false))) = some r := H
              have A21 := Aside0.mk A210
              clear A210
              replace H := Option.bind_eq_some_iff.mp H
              obtain ⟨t124, A220, H⟩ := H
              replace H : (if t124 = a0 then ((serial_Add.f a0 7).bind fun t125 => ((serial_Way.f a0 t125).bind fun t126 => (some (t126 == 7)))) else (some false)) = some r := H
              have A22 := Aside0.mk A220
              clear A220
              by_cases c23 : t124 = a0
              · rw [if_pos c23] at H
                have c23b0 : (t124 == a0) = true := beq_iff_eq.mpr c23
                have c23b1 : (t124 != a0) = false := bne_eq_false_iff_eq.mpr c23
                clear c23
                replace H := Option.bind_eq_some_iff.mp H
                obtain ⟨t125, A240, H⟩ := H
                replace H : ((serial_Way.f a0 t125).bind fun t126 => (some (t126 == 7))) = some r := H
                have A24 := Aside0.mk A240
                clear A240
                replace H := Option.bind_eq_some_iff.mp H
                obtain ⟨t126, A250, H⟩ := H
                replace H : (some (t126 == 7)) = some r := H
                have A25 := Aside0.mk A250
                clear A250
                obtain rfl := Option.some.inj H
                have hq : t123 = t121 := Option.some.inj (A21.out.symm.trans A18.out)
                go_enter Try.func3, Try.ntmps3
                go_wp2_with (first | ((with_reducible refine gate_callee (f := 8) rfl ?_); refine goesL_ (some 7) rfl rfl Try.func8 (by kernel_rfl) rfl #[] rfl (by (try simp only [List.map_toArray, List.map_cons, List.map_nil]); first | done | rfl | (simp only [List.length_drop, List.length_take]; rfl)) ?_; (with_reducible refine (cuneiformlaw10_known.calls  true _ A4.out).mono ?_); rintro e w26 ⟨rfl, hb⟩; refine ⟨_, rfl, ?_⟩; have n0_ := Aside0.mk (below_step (by repeat (first | (with_reducible first | exact HB.out | apply below_alloc | apply pw_below_drewN | apply below_drew1) | exact HB.out)) hb); clear HB; have HB := n0_; clear n0_; (try clear hb); (try clear hb2); (try clear hk); (try clear hi)) | (go_at_call 9; (with_reducible refine (serial_Way.calls a0 a1 t113 _ A6.out).mono ?_); rintro e w' ⟨rfl, ⟨nd, rfl⟩⟩) | (go_at_call 10; (with_reducible refine (cuneiformref10_Way.calls a0 a1 t114 _ A7.out).mono ?_); rintro e w' ⟨rfl, ⟨nd, rfl⟩⟩) | (go_at_call 11; (with_reducible refine (serial_Add.calls a0 a2 t115 _ A9.out).mono ?_); rintro e w' ⟨rfl, ⟨nd, rfl⟩⟩) | (go_at_call 12; (with_reducible refine (cuneiformref10_Add.calls a0 a2 t116 _ A10.out).mono ?_); rintro e w' ⟨rfl, ⟨nd, rfl⟩⟩) | (go_at_call 13; (with_reducible refine (serial_After.calls a0 a1 t117 _ A12.out).mono ?_); rintro e w' ⟨rfl, ⟨nd, rfl⟩⟩) | (go_at_call 14; (with_reducible refine (cuneiformref10_After.calls a0 a1 t118 _ A13.out).mono ?_); rintro e w' ⟨rfl, ⟨nd, rfl⟩⟩) | (go_at_call 13; (with_reducible refine (serial_After.calls a1 a0 t119 _ A15.out).mono ?_); rintro e w' ⟨rfl, ⟨nd, rfl⟩⟩) | (go_at_call 14; (with_reducible refine (cuneiformref10_After.calls a1 a0 t120 _ A16.out).mono ?_); rintro e w' ⟨rfl, ⟨nd, rfl⟩⟩) | (go_at_call 15; (with_reducible refine (serial_Diff.calls a0 a1 t121 _ A18.out).mono ?_); rintro e w' ⟨rfl, ⟨nd, rfl⟩⟩) | (go_at_call 16; (with_reducible refine (cuneiformref10_Diff.calls a0 a1 t122 _ A19.out).mono ?_); rintro e w' ⟨rfl, ⟨nd, rfl⟩⟩) | (go_at_call 15; (with_reducible refine (serial_Diff.calls a0 a1 t123 _ A21.out).mono ?_); rintro e w' ⟨rfl, ⟨nd, rfl⟩⟩) | (go_at_call 11; (with_reducible refine (serial_Add.calls a1 t121 t124 _ (hq ▸ A22.out)).mono ?_); rintro e w' ⟨rfl, ⟨nd, rfl⟩⟩) | (go_at_call 11; (with_reducible refine (serial_Add.calls a0 7 t125 _ A24.out).mono ?_); rintro e w' ⟨rfl, ⟨nd, rfl⟩⟩) | (go_at_call 9; (with_reducible refine (serial_Way.calls a0 t125 t126 _ A25.out).mono ?_); rintro e w' ⟨rfl, ⟨nd, rfl⟩⟩))
                go_ret
                exact ⟨by first | rfl | (simp [errW_none, errW_some] <;> rfl) | (simp [*, errW_none, errW_some] <;> rfl), by repeat (first | (with_reducible first | exact HB.out | apply below_alloc | apply pw_below_drewN | apply below_drew1) | exact HB.out)⟩
              · rw [if_neg c23] at H
                have c23b0 : (t124 == a0) = false := beq_eq_false_iff_ne.mpr c23
                have c23b1 : (t124 != a0) = true := bne_iff_ne.mpr c23
                obtain rfl := Option.some.inj H
                have hq : t123 = t121 := Option.some.inj (A21.out.symm.trans A18.out)
                go_enter Try.func3, Try.ntmps3
                go_wp2_with (first | ((with_reducible refine gate_callee (f := 8) rfl ?_); refine goesL_ (some 7) rfl rfl Try.func8 (by kernel_rfl) rfl #[] rfl (by (try simp only [List.map_toArray, List.map_cons, List.map_nil]); first | done | rfl | (simp only [List.length_drop, List.length_take]; rfl)) ?_; (with_reducible refine (cuneiformlaw10_known.calls  true _ A4.out).mono ?_); rintro e w27 ⟨rfl, hb⟩; refine ⟨_, rfl, ?_⟩; have n0_ := Aside0.mk (below_step (by repeat (first | (with_reducible first | exact HB.out | apply below_alloc | apply pw_below_drewN | apply below_drew1) | exact HB.out)) hb); clear HB; have HB := n0_; clear n0_; (try clear hb); (try clear hb2); (try clear hk); (try clear hi)) | (go_at_call 9; (with_reducible refine (serial_Way.calls a0 a1 t113 _ A6.out).mono ?_); rintro e w' ⟨rfl, ⟨nd, rfl⟩⟩) | (go_at_call 10; (with_reducible refine (cuneiformref10_Way.calls a0 a1 t114 _ A7.out).mono ?_); rintro e w' ⟨rfl, ⟨nd, rfl⟩⟩) | (go_at_call 11; (with_reducible refine (serial_Add.calls a0 a2 t115 _ A9.out).mono ?_); rintro e w' ⟨rfl, ⟨nd, rfl⟩⟩) | (go_at_call 12; (with_reducible refine (cuneiformref10_Add.calls a0 a2 t116 _ A10.out).mono ?_); rintro e w' ⟨rfl, ⟨nd, rfl⟩⟩) | (go_at_call 13; (with_reducible refine (serial_After.calls a0 a1 t117 _ A12.out).mono ?_); rintro e w' ⟨rfl, ⟨nd, rfl⟩⟩) | (go_at_call 14; (with_reducible refine (cuneiformref10_After.calls a0 a1 t118 _ A13.out).mono ?_); rintro e w' ⟨rfl, ⟨nd, rfl⟩⟩) | (go_at_call 13; (with_reducible refine (serial_After.calls a1 a0 t119 _ A15.out).mono ?_); rintro e w' ⟨rfl, ⟨nd, rfl⟩⟩) | (go_at_call 14; (with_reducible refine (cuneiformref10_After.calls a1 a0 t120 _ A16.out).mono ?_); rintro e w' ⟨rfl, ⟨nd, rfl⟩⟩) | (go_at_call 15; (with_reducible refine (serial_Diff.calls a0 a1 t121 _ A18.out).mono ?_); rintro e w' ⟨rfl, ⟨nd, rfl⟩⟩) | (go_at_call 16; (with_reducible refine (cuneiformref10_Diff.calls a0 a1 t122 _ A19.out).mono ?_); rintro e w' ⟨rfl, ⟨nd, rfl⟩⟩) | (go_at_call 15; (with_reducible refine (serial_Diff.calls a0 a1 t123 _ A21.out).mono ?_); rintro e w' ⟨rfl, ⟨nd, rfl⟩⟩) | (go_at_call 11; (with_reducible refine (serial_Add.calls a1 t121 t124 _ (hq ▸ A22.out)).mono ?_); rintro e w' ⟨rfl, ⟨nd, rfl⟩⟩))
                go_ret
                exact ⟨by first | rfl | (simp [errW_none, errW_some] <;> rfl) | (simp [*, errW_none, errW_some] <;> rfl), by repeat (first | (with_reducible first | exact HB.out | apply below_alloc | apply pw_below_drewN | apply below_drew1) | exact HB.out)⟩
            · rw [if_neg c20] at H
              have c20b0 : (t121 == t122) = false := beq_eq_false_iff_ne.mpr c20
              have c20b1 : (t121 != t122) = true := bne_iff_ne.mpr c20
              obtain rfl := Option.some.inj H
              go_enter Try.func3, Try.ntmps3
              go_wp2_with (first | ((with_reducible refine gate_callee (f := 8) rfl ?_); refine goesL_ (some 7) rfl rfl Try.func8 (by kernel_rfl) rfl #[] rfl (by (try simp only [List.map_toArray, List.map_cons, List.map_nil]); first | done | rfl | (simp only [List.length_drop, List.length_take]; rfl)) ?_; (with_reducible refine (cuneiformlaw10_known.calls  true _ A4.out).mono ?_); rintro e w28 ⟨rfl, hb⟩; refine ⟨_, rfl, ?_⟩; have n0_ := Aside0.mk (below_step (by repeat (first | (with_reducible first | exact HB.out | apply below_alloc | apply pw_below_drewN | apply below_drew1) | exact HB.out)) hb); clear HB; have HB := n0_; clear n0_; (try clear hb); (try clear hb2); (try clear hk); (try clear hi)) | (go_at_call 9; (with_reducible refine (serial_Way.calls a0 a1 t113 _ A6.out).mono ?_); rintro e w' ⟨rfl, ⟨nd, rfl⟩⟩) | (go_at_call 10; (with_reducible refine (cuneiformref10_Way.calls a0 a1 t114 _ A7.out).mono ?_); rintro e w' ⟨rfl, ⟨nd, rfl⟩⟩) | (go_at_call 11; (with_reducible refine (serial_Add.calls a0 a2 t115 _ A9.out).mono ?_); rintro e w' ⟨rfl, ⟨nd, rfl⟩⟩) | (go_at_call 12; (with_reducible refine (cuneiformref10_Add.calls a0 a2 t116 _ A10.out).mono ?_); rintro e w' ⟨rfl, ⟨nd, rfl⟩⟩) | (go_at_call 13; (with_reducible refine (serial_After.calls a0 a1 t117 _ A12.out).mono ?_); rintro e w' ⟨rfl, ⟨nd, rfl⟩⟩) | (go_at_call 14; (with_reducible refine (cuneiformref10_After.calls a0 a1 t118 _ A13.out).mono ?_); rintro e w' ⟨rfl, ⟨nd, rfl⟩⟩) | (go_at_call 13; (with_reducible refine (serial_After.calls a1 a0 t119 _ A15.out).mono ?_); rintro e w' ⟨rfl, ⟨nd, rfl⟩⟩) | (go_at_call 14; (with_reducible refine (cuneiformref10_After.calls a1 a0 t120 _ A16.out).mono ?_); rintro e w' ⟨rfl, ⟨nd, rfl⟩⟩) | (go_at_call 15; (with_reducible refine (serial_Diff.calls a0 a1 t121 _ A18.out).mono ?_); rintro e w' ⟨rfl, ⟨nd, rfl⟩⟩) | (go_at_call 16; (with_reducible refine (cuneiformref10_Diff.calls a0 a1 t122 _ A19.out).mono ?_); rintro e w' ⟨rfl, ⟨nd, rfl⟩⟩))
              go_ret
              exact ⟨by first | rfl | (simp [errW_none, errW_some] <;> rfl) | (simp [*, errW_none, errW_some] <;> rfl), by repeat (first | (with_reducible first | exact HB.out | apply below_alloc | apply pw_below_drewN | apply below_drew1) | exact HB.out)⟩
          · rw [if_neg c17] at H
            have c17b0 : (t119 == t120) = false := by simpa using c17
            (try (have c17b1 : decide (t119 = t120) = false := by simpa using c17))
            (try (have c17b2 : (t119 == t120) = false := by simpa using c17))
            (try (have c17b3 : ¬ (t119 = t120) := by simpa using c17))
            clear c17
            obtain rfl := Option.some.inj H
            go_enter Try.func3, Try.ntmps3
            go_wp2_with (first | ((with_reducible refine gate_callee (f := 8) rfl ?_); refine goesL_ (some 7) rfl rfl Try.func8 (by kernel_rfl) rfl #[] rfl (by (try simp only [List.map_toArray, List.map_cons, List.map_nil]); first | done | rfl | (simp only [List.length_drop, List.length_take]; rfl)) ?_; (with_reducible refine (cuneiformlaw10_known.calls  true _ A4.out).mono ?_); rintro e w29 ⟨rfl, hb⟩; refine ⟨_, rfl, ?_⟩; have n0_ := Aside0.mk (below_step (by repeat (first | (with_reducible first | exact HB.out | apply below_alloc | apply pw_below_drewN | apply below_drew1) | exact HB.out)) hb); clear HB; have HB := n0_; clear n0_; (try clear hb); (try clear hb2); (try clear hk); (try clear hi)) | (go_at_call 9; (with_reducible refine (serial_Way.calls a0 a1 t113 _ A6.out).mono ?_); rintro e w' ⟨rfl, ⟨nd, rfl⟩⟩) | (go_at_call 10; (with_reducible refine (cuneiformref10_Way.calls a0 a1 t114 _ A7.out).mono ?_); rintro e w' ⟨rfl, ⟨nd, rfl⟩⟩) | (go_at_call 11; (with_reducible refine (serial_Add.calls a0 a2 t115 _ A9.out).mono ?_); rintro e w' ⟨rfl, ⟨nd, rfl⟩⟩) | (go_at_call 12; (with_reducible refine (cuneiformref10_Add.calls a0 a2 t116 _ A10.out).mono ?_); rintro e w' ⟨rfl, ⟨nd, rfl⟩⟩) | (go_at_call 13; (with_reducible refine (serial_After.calls a0 a1 t117 _ A12.out).mono ?_); rintro e w' ⟨rfl, ⟨nd, rfl⟩⟩) | (go_at_call 14; (with_reducible refine (cuneiformref10_After.calls a0 a1 t118 _ A13.out).mono ?_); rintro e w' ⟨rfl, ⟨nd, rfl⟩⟩) | (go_at_call 13; (with_reducible refine (serial_After.calls a1 a0 t119 _ A15.out).mono ?_); rintro e w' ⟨rfl, ⟨nd, rfl⟩⟩) | (go_at_call 14; (with_reducible refine (cuneiformref10_After.calls a1 a0 t120 _ A16.out).mono ?_); rintro e w' ⟨rfl, ⟨nd, rfl⟩⟩))
            go_ret
            exact ⟨by first | rfl | (simp [errW_none, errW_some] <;> rfl) | (simp [*, errW_none, errW_some] <;> rfl), by repeat (first | (with_reducible first | exact HB.out | apply below_alloc | apply pw_below_drewN | apply below_drew1) | exact HB.out)⟩
        · rw [if_neg c14] at H
          have c14b0 : (t117 == t118) = false := by simpa using c14
          (try (have c14b1 : decide (t117 = t118) = false := by simpa using c14))
          (try (have c14b2 : (t117 == t118) = false := by simpa using c14))
          (try (have c14b3 : ¬ (t117 = t118) := by simpa using c14))
          clear c14
          obtain rfl := Option.some.inj H
          go_enter Try.func3, Try.ntmps3
          go_wp2_with (first | ((with_reducible refine gate_callee (f := 8) rfl ?_); refine goesL_ (some 7) rfl rfl Try.func8 (by kernel_rfl) rfl #[] rfl (by (try simp only [List.map_toArray, List.map_cons, List.map_nil]); first | done | rfl | (simp only [List.length_drop, List.length_take]; rfl)) ?_; (with_reducible refine (cuneiformlaw10_known.calls  true _ A4.out).mono ?_); rintro e w30 ⟨rfl, hb⟩; refine ⟨_, rfl, ?_⟩; have n0_ := Aside0.mk (below_step (by repeat (first | (with_reducible first | exact HB.out | apply below_alloc | apply pw_below_drewN | apply below_drew1) | exact HB.out)) hb); clear HB; have HB := n0_; clear n0_; (try clear hb); (try clear hb2); (try clear hk); (try clear hi)) | (go_at_call 9; (with_reducible refine (serial_Way.calls a0 a1 t113 _ A6.out).mono ?_); rintro e w' ⟨rfl, ⟨nd, rfl⟩⟩) | (go_at_call 10; (with_reducible refine (cuneiformref10_Way.calls a0 a1 t114 _ A7.out).mono ?_); rintro e w' ⟨rfl, ⟨nd, rfl⟩⟩) | (go_at_call 11; (with_reducible refine (serial_Add.calls a0 a2 t115 _ A9.out).mono ?_); rintro e w' ⟨rfl, ⟨nd, rfl⟩⟩) | (go_at_call 12; (with_reducible refine (cuneiformref10_Add.calls a0 a2 t116 _ A10.out).mono ?_); rintro e w' ⟨rfl, ⟨nd, rfl⟩⟩) | (go_at_call 13; (with_reducible refine (serial_After.calls a0 a1 t117 _ A12.out).mono ?_); rintro e w' ⟨rfl, ⟨nd, rfl⟩⟩) | (go_at_call 14; (with_reducible refine (cuneiformref10_After.calls a0 a1 t118 _ A13.out).mono ?_); rintro e w' ⟨rfl, ⟨nd, rfl⟩⟩))
          go_ret
          exact ⟨by first | rfl | (simp [errW_none, errW_some] <;> rfl) | (simp [*, errW_none, errW_some] <;> rfl), by repeat (first | (with_reducible first | exact HB.out | apply below_alloc | apply pw_below_drewN | apply below_drew1) | exact HB.out)⟩
      · rw [if_neg c11] at H
        have c11b0 : (t115 == t116) = false := beq_eq_false_iff_ne.mpr c11
        have c11b1 : (t115 != t116) = true := bne_iff_ne.mpr c11
        obtain rfl := Option.some.inj H
        go_enter Try.func3, Try.ntmps3
        go_wp2_with (first | ((with_reducible refine gate_callee (f := 8) rfl ?_); refine goesL_ (some 7) rfl rfl Try.func8 (by kernel_rfl) rfl #[] rfl (by (try simp only [List.map_toArray, List.map_cons, List.map_nil]); first | done | rfl | (simp only [List.length_drop, List.length_take]; rfl)) ?_; (with_reducible refine (cuneiformlaw10_known.calls  true _ A4.out).mono ?_); rintro e w31 ⟨rfl, hb⟩; refine ⟨_, rfl, ?_⟩; have n0_ := Aside0.mk (below_step (by repeat (first | (with_reducible first | exact HB.out | apply below_alloc | apply pw_below_drewN | apply below_drew1) | exact HB.out)) hb); clear HB; have HB := n0_; clear n0_; (try clear hb); (try clear hb2); (try clear hk); (try clear hi)) | (go_at_call 9; (with_reducible refine (serial_Way.calls a0 a1 t113 _ A6.out).mono ?_); rintro e w' ⟨rfl, ⟨nd, rfl⟩⟩) | (go_at_call 10; (with_reducible refine (cuneiformref10_Way.calls a0 a1 t114 _ A7.out).mono ?_); rintro e w' ⟨rfl, ⟨nd, rfl⟩⟩) | (go_at_call 11; (with_reducible refine (serial_Add.calls a0 a2 t115 _ A9.out).mono ?_); rintro e w' ⟨rfl, ⟨nd, rfl⟩⟩) | (go_at_call 12; (with_reducible refine (cuneiformref10_Add.calls a0 a2 t116 _ A10.out).mono ?_); rintro e w' ⟨rfl, ⟨nd, rfl⟩⟩))
        go_ret
        exact ⟨by first | rfl | (simp [errW_none, errW_some] <;> rfl) | (simp [*, errW_none, errW_some] <;> rfl), by repeat (first | (with_reducible first | exact HB.out | apply below_alloc | apply pw_below_drewN | apply below_drew1) | exact HB.out)⟩
    · rw [if_neg c8] at H
      have c8b0 : (t113 == t114) = false := beq_eq_false_iff_ne.mpr c8
      have c8b1 : (t113 != t114) = true := bne_iff_ne.mpr c8
      obtain rfl := Option.some.inj H
      go_enter Try.func3, Try.ntmps3
      go_wp2_with (first | ((with_reducible refine gate_callee (f := 8) rfl ?_); refine goesL_ (some 7) rfl rfl Try.func8 (by kernel_rfl) rfl #[] rfl (by (try simp only [List.map_toArray, List.map_cons, List.map_nil]); first | done | rfl | (simp only [List.length_drop, List.length_take]; rfl)) ?_; (with_reducible refine (cuneiformlaw10_known.calls  true _ A4.out).mono ?_); rintro e w32 ⟨rfl, hb⟩; refine ⟨_, rfl, ?_⟩; have n0_ := Aside0.mk (below_step (by repeat (first | (with_reducible first | exact HB.out | apply below_alloc | apply pw_below_drewN | apply below_drew1) | exact HB.out)) hb); clear HB; have HB := n0_; clear n0_; (try clear hb); (try clear hb2); (try clear hk); (try clear hi)) | (go_at_call 9; (with_reducible refine (serial_Way.calls a0 a1 t113 _ A6.out).mono ?_); rintro e w' ⟨rfl, ⟨nd, rfl⟩⟩) | (go_at_call 10; (with_reducible refine (cuneiformref10_Way.calls a0 a1 t114 _ A7.out).mono ?_); rintro e w' ⟨rfl, ⟨nd, rfl⟩⟩))
      go_ret
      exact ⟨by first | rfl | (simp [errW_none, errW_some] <;> rfl) | (simp [*, errW_none, errW_some] <;> rfl), by repeat (first | (with_reducible first | exact HB.out | apply below_alloc | apply pw_below_drewN | apply below_drew1) | exact HB.out)⟩
  · replace c5 := Bool.eq_false_iff.mpr c5
    subst c5
    have H1 : (some false) = some r := by rw [if_neg (show ¬ (false = true) by decide)] at H; exact H
    clear H
    have H := H1
    clear H1
    obtain rfl := Option.some.inj H
    go_enter Try.func3, Try.ntmps3
    go_wp2_with (first | ((with_reducible refine gate_callee (f := 8) rfl ?_); refine goesL_ (some 7) rfl rfl Try.func8 (by kernel_rfl) rfl #[] rfl (by (try simp only [List.map_toArray, List.map_cons, List.map_nil]); first | done | rfl | (simp only [List.length_drop, List.length_take]; rfl)) ?_; (with_reducible refine (cuneiformlaw10_known.calls  false _ A4.out).mono ?_); rintro e w33 ⟨rfl, hb⟩; refine ⟨_, rfl, ?_⟩; have n0_ := Aside0.mk (below_step (by repeat (first | (with_reducible first | exact HB.out | apply below_alloc | apply pw_below_drewN | apply below_drew1) | exact HB.out)) hb); clear HB; have HB := n0_; clear n0_; (try clear hb); (try clear hb2); (try clear hk); (try clear hi)))
    go_ret
    exact ⟨by first | rfl | (simp [errW_none, errW_some] <;> rfl) | (simp [*, errW_none, errW_some] <;> rfl), by repeat (first | (with_reducible first | exact HB.out | apply below_alloc | apply pw_below_drewN | apply below_drew1) | exact HB.out)⟩

/-- THE ONE PURE STATEMENT of cuneiformlaw10_SerialWays: yours. -/
def cuneiformlaw10_SerialWays.Pure : Prop := ∀ (a0 : Int) (a1 : Int) (a2 : Int), (Lit.int .u32 a0).wf = true → (Lit.int .u32 a1).wf = true → (Lit.int .i64 a2).wf = true → cuneiformlaw10_SerialWays.f a0 a1 a2 = some true
theorem cuneiformlaw10_SerialWays.walk (P : cuneiformlaw10_SerialWays.Pure) (a0 : Int) (a1 : Int) (a2 : Int) (w : World) (w0 : (Lit.int .u32 a0).wf = true) (w1 : (Lit.int .u32 a1).wf = true) (w2 : (Lit.int .i64 a2).wf = true) :
    Calls Try.prog 3 #[.int .u32 a0, .int .u32 a1, .int .i64 a2] w fun e w' => e = .returned (.bool true) ∧ Below w.heap.size w w' := by
  have h := P a0 a1 a2 w0 w1 w2
  refine (cuneiformlaw10_SerialWays.calls a0 a1 a2 true w h).mono ?_
  rintro e w' ⟨rfl, hd⟩
  exact ⟨rfl, hd⟩

end Go.Proofs.Ytdgphdkebegidaa.P
