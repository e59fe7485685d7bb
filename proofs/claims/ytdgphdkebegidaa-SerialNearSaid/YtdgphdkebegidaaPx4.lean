-- Printed by a program of this session, over contracts of its own; Lean checks it.
import Derived.Test.YtdgphdkebegidaaPx0
import Derived.Test.YtdgphdkebegidaaPx1
namespace Go.Proofs.Ytdgphdkebegidaa.P
open Go.RowKit Go.Proofs.Ytdgphdkebegidaa.Ext Go.Proofs.YtdgphdkebegidaaW.PrintWords Go.Proofs.YtdgphdkebegidaaW.PrintLast Go.Proofs.YtdgphdkebegidaaW.PrintMore
attribute [local go_sem] max2_int min2_int max_two min_two max_three min_three max_four min_four   -- for this text's walks alone
set_option linter.unusedVariables false
set_option linter.unusedSimpArgs false

theorem Newest_snd {l : List Int} {a : Int} {b : Bool} (h : serial_Newest.f l = some (a, b)) : b = decide (0 < l.length) := by
  unfold serial_Newest.f at h
  split at h
  case isFalse => cases h
  have e := congrArg Prod.snd (Option.some.inj h)
  cases l <;> simp_all [tak]
theorem Oldest_snd {l : List Int} {a : Int} {b : Bool} (h : serial_Oldest.f l = some (a, b)) : b = decide (0 < l.length) := by
  unfold serial_Oldest.f at h
  split at h
  case isFalse => cases h
  have e := congrArg Prod.snd (Option.some.inj h)
  cases l <;> simp_all [tak]
/-! ### cuneiformlaw10_SerialNear: function 6 -/
mutual
def cuneiformlaw10_SerialNear.j1 : Nat → List Int → List Int → Option (Bool)
  | 0, _, _ => none
  | k + 1, x5, x6 => cuneiformlaw10_SerialNear.l1 k x5 x6 (wrap64 ((x5.length : Int) - 1))
def cuneiformlaw10_SerialNear.l1 : Nat → List Int → List Int → Int → Option (Bool)
  | 0, _, _, _ => none
  | k + 1, x5, x6, x8 => if x8 ≥ 0 then (if 0 ≤ x8 then (if x8 < (x5.length : Int) then (if x6.length < 35184372088832 then (cuneiformlaw10_SerialNear.l1 k x5 (x6 ++ [rd x5 x8]) (wrap64 (x8 - 1))) else (none)) else (none)) else (none)) else ((serial_Newest.f x5).bind fun bt182 => ((serial_Oldest.f x5).bind fun bt184 => ((serial_Newest.f x6).bind fun bt186 => ((serial_Oldest.f x6).bind fun bt188 => (if (bt182.2 != (decide ((x5.length : Int) > 0))) = true then (cuneiformlaw10_SerialNear.j3 k x5 bt182.1 bt184.1 true) else (if (bt184.2 != bt182.2) = true then (cuneiformlaw10_SerialNear.j3 k x5 bt182.1 bt184.1 true) else (if bt182.1 = bt186.1 then (cuneiformlaw10_SerialNear.j3 k x5 bt182.1 bt184.1 (bt184.1 != bt188.1)) else (cuneiformlaw10_SerialNear.j3 k x5 bt182.1 bt184.1 true))))))))
def cuneiformlaw10_SerialNear.j3 : Nat → List Int → Int → Int → Bool → Option (Bool)
  | 0, _, _, _, _ => none
  | k + 1, x5, x9, x11, x91 => if x91 = true then (some false) else (cuneiformlaw10_SerialNear.l2 k x5 x9 x11 0)
def cuneiformlaw10_SerialNear.l2 : Nat → List Int → Int → Int → Int → Option (Bool)
  | 0, _, _, _, _ => none
  | k + 1, x5, x9, x11, x17 => if x17 < (x5.length : Int) then (if 0 ≤ x17 then (if (rd x5 x17) = x9 then (if (rd x5 x17) = x11 then (cuneiformlaw10_SerialNear.l2 k x5 x9 x11 (wrap64 (x17 + 1))) else ((serial_After.f (rd x5 x17) x11).bind fun t194 => (if t194 = true then (cuneiformlaw10_SerialNear.l2 k x5 x9 x11 (wrap64 (x17 + 1))) else (some false)))) else ((serial_After.f x9 (rd x5 x17)).bind fun t196 => (if t196 = true then (if (rd x5 x17) = x11 then (cuneiformlaw10_SerialNear.l2 k x5 x9 x11 (wrap64 (x17 + 1))) else ((serial_After.f (rd x5 x17) x11).bind fun t199 => (if t199 = true then (cuneiformlaw10_SerialNear.l2 k x5 x9 x11 (wrap64 (x17 + 1))) else (some false)))) else (some false)))) else (none)) else ((cuneiformlaw10_known.f).bind fun t190 => (some t190))
def cuneiformlaw10_SerialNear.l0 : Nat → Int → List Int → List Int → Int → Option (Bool)
  | 0, _, _, _, _ => none
  | k + 1, x0, x1, x5, x7 => if x7 < (x1.length : Int) then (if x7 < 60 then (if 0 ≤ x7 then (if x5.length < 35184372088832 then (cuneiformlaw10_SerialNear.l0 k x0 x1 (x5 ++ [(x0 + (Int.tmod (rd x1 x7) 2147483648)) % 4294967296]) (wrap64 (x7 + 1))) else (none)) else (none)) else (cuneiformlaw10_SerialNear.j1 k x5 ([] : List Int))) else (cuneiformlaw10_SerialNear.j1 k x5 ([] : List Int))
end
def cuneiformlaw10_SerialNear.f (k : Nat) (a0 : Int) (l1 : List Int) : Option (Bool) := cuneiformlaw10_SerialNear.l0 k a0 l1 ([] : List Int) 0
theorem cuneiformlaw10_SerialNear.mono_l : ∀ k, (∀ y0 y1, LeO (cuneiformlaw10_SerialNear.j1 k y0 y1) (cuneiformlaw10_SerialNear.j1 (k + 1) y0 y1)) ∧ (∀ y0 y1 y2, LeO (cuneiformlaw10_SerialNear.l1 k y0 y1 y2) (cuneiformlaw10_SerialNear.l1 (k + 1) y0 y1 y2)) ∧ (∀ y0 y1 y2 y3, LeO (cuneiformlaw10_SerialNear.j3 k y0 y1 y2 y3) (cuneiformlaw10_SerialNear.j3 (k + 1) y0 y1 y2 y3)) ∧ (∀ y0 y1 y2 y3, LeO (cuneiformlaw10_SerialNear.l2 k y0 y1 y2 y3) (cuneiformlaw10_SerialNear.l2 (k + 1) y0 y1 y2 y3)) ∧ (∀ y0 y1 y2 y3, LeO (cuneiformlaw10_SerialNear.l0 k y0 y1 y2 y3) (cuneiformlaw10_SerialNear.l0 (k + 1) y0 y1 y2 y3))
  | 0 => ⟨fun _ _ r h => by simp [cuneiformlaw10_SerialNear.j1] at h, fun _ _ _ r h => by simp [cuneiformlaw10_SerialNear.l1] at h, fun _ _ _ _ r h => by simp [cuneiformlaw10_SerialNear.j3] at h, fun _ _ _ _ r h => by simp [cuneiformlaw10_SerialNear.l2] at h, fun _ _ _ _ r h => by simp [cuneiformlaw10_SerialNear.l0] at h⟩
  | k + 1 => by
    obtain ⟨ih0, ih1, ih2, ih3, ih4⟩ := cuneiformlaw10_SerialNear.mono_l k
    refine ⟨?_, ?_, ?_, ?_, ?_⟩
    · intro y0 y1
      unfold cuneiformlaw10_SerialNear.j1
      repeat' first
      | (with_reducible exact ih0 _ _)
      | (with_reducible exact ih1 _ _ _)
      | (with_reducible exact ih2 _ _ _ _)
      | (with_reducible exact ih3 _ _ _ _)
      | (with_reducible exact ih4 _ _ _ _)
      | (with_reducible exact LeO.refl _)
      | (with_reducible exact LeO.none _)
      | (with_reducible refine LeO.ite ?_ ?_)
      | (with_reducible refine LeO.bind ?_ (fun _ => ?_))
      | exact ih0 _ _
      | exact ih1 _ _ _
      | exact ih2 _ _ _ _
      | exact ih3 _ _ _ _
      | exact ih4 _ _ _ _
      | exact LeO.none _
      | refine LeO.ite ?_ ?_
      | refine LeO.bind ?_ (fun _ => ?_)
    · intro y0 y1 y2
      unfold cuneiformlaw10_SerialNear.l1
      repeat' first
      | (with_reducible exact ih0 _ _)
      | (with_reducible exact ih1 _ _ _)
      | (with_reducible exact ih2 _ _ _ _)
      | (with_reducible exact ih3 _ _ _ _)
      | (with_reducible exact ih4 _ _ _ _)
      | (with_reducible exact LeO.refl _)
      | (with_reducible exact LeO.none _)
      | (with_reducible refine LeO.ite ?_ ?_)
      | (with_reducible refine LeO.bind ?_ (fun _ => ?_))
      | exact ih0 _ _
      | exact ih1 _ _ _
      | exact ih2 _ _ _ _
      | exact ih3 _ _ _ _
      | exact ih4 _ _ _ _
      | exact LeO.none _
      | refine LeO.ite ?_ ?_
      | refine LeO.bind ?_ (fun _ => ?_)
    · intro y0 y1 y2 y3
      unfold cuneiformlaw10_SerialNear.j3
      repeat' first
      | (with_reducible exact ih0 _ _)
      | (with_reducible exact ih1 _ _ _)
      | (with_reducible exact ih2 _ _ _ _)
      | (with_reducible exact ih3 _ _ _ _)
      | (with_reducible exact ih4 _ _ _ _)
      | (with_reducible exact LeO.refl _)
      | (with_reducible exact LeO.none _)
      | (with_reducible refine LeO.ite ?_ ?_)
      | (with_reducible refine LeO.bind ?_ (fun _ => ?_))
      | exact ih0 _ _
      | exact ih1 _ _ _
      | exact ih2 _ _ _ _
      | exact ih3 _ _ _ _
      | exact ih4 _ _ _ _
      | exact LeO.none _
      | refine LeO.ite ?_ ?_
      | refine LeO.bind ?_ (fun _ => ?_)
    · intro y0 y1 y2 y3
      unfold cuneiformlaw10_SerialNear.l2
      repeat' first
      | (with_reducible exact ih0 _ _)
      | (with_reducible exact ih1 _ _ _)
      | (with_reducible exact ih2 _ _ _ _)
      | (with_reducible exact ih3 _ _ _ _)
      | (with_reducible exact ih4 _ _ _ _)
      | (with_reducible exact LeO.refl _)
      | (with_reducible exact LeO.none _)
      | (with_reducible refine LeO.ite ?_ ?_)
      | (with_reducible refine LeO.bind ?_ (fun _ => ?_))
      | exact ih0 _ _
      | exact ih1 _ _ _
      | exact ih2 _ _ _ _
      | exact ih3 _ _ _ _
      | exact ih4 _ _ _ _
      | exact LeO.none _
      | refine LeO.ite ?_ ?_
      | refine LeO.bind ?_ (fun _ => ?_)
    · intro y0 y1 y2 y3
      unfold cuneiformlaw10_SerialNear.l0
      repeat' first
      | (with_reducible exact ih0 _ _)
      | (with_reducible exact ih1 _ _ _)
      | (with_reducible exact ih2 _ _ _ _)
      | (with_reducible exact ih3 _ _ _ _)
      | (with_reducible exact ih4 _ _ _ _)
      | (with_reducible exact LeO.refl _)
      | (with_reducible exact LeO.none _)
      | (with_reducible refine LeO.ite ?_ ?_)
      | (with_reducible refine LeO.bind ?_ (fun _ => ?_))
      | exact ih0 _ _
      | exact ih1 _ _ _
      | exact ih2 _ _ _ _
      | exact ih3 _ _ _ _
      | exact ih4 _ _ _ _
      | exact LeO.none _
      | refine LeO.ite ?_ ?_
      | refine LeO.bind ?_ (fun _ => ?_)
theorem cuneiformlaw10_SerialNear.mono : ∀ a0 a1 k, LeO (cuneiformlaw10_SerialNear.f k a0 a1) (cuneiformlaw10_SerialNear.f (k + 1) a0 a1) := by
  intro a0 a1 k
  obtain ⟨ih0, ih1, ih2, ih3, ih4⟩ := cuneiformlaw10_SerialNear.mono_l k
  unfold cuneiformlaw10_SerialNear.f
  repeat' first
      | (with_reducible exact ih0 _ _)
      | (with_reducible exact ih1 _ _ _)
      | (with_reducible exact ih2 _ _ _ _)
      | (with_reducible exact ih3 _ _ _ _)
      | (with_reducible exact ih4 _ _ _ _)
      | (with_reducible exact LeO.refl _)
      | (with_reducible exact LeO.none _)
      | (with_reducible refine LeO.ite ?_ ?_)
      | (with_reducible refine LeO.bind ?_ (fun _ => ?_))
      | exact ih0 _ _
      | exact ih1 _ _ _
      | exact ih2 _ _ _ _
      | exact ih3 _ _ _ _
      | exact ih4 _ _ _ _
      | exact LeO.none _
      | refine LeO.ite ?_ ?_
      | refine LeO.bind ?_ (fun _ => ?_)
set_option maxHeartbeats 8000000 in
set_option maxRecDepth 100000 in
theorem cuneiformlaw10_SerialNear.calls (k : Nat) (a0 : Int) (A1 : Option Addr) (c1 : Nat) (l1 : List Int) (r : Bool) (w : World) (hr1 : Kd.C (Kd.int .u32) w A1 l1.length l1) (hc1 : l1.length ≤ c1) (h : cuneiformlaw10_SerialNear.f k a0 l1 = some r) :
    Calls Try.prog 6 #[.int .u32 a0, .slice A1 l1.length c1] w fun e w' => e = .returned (.bool r) ∧ Below w.heap.size w w' := by
  have HR1 := Aside0.mk hr1
  have HC1 := Aside0.mk hc1
  clear hr1 hc1
  have HB := Aside0.mk (Below.refl w.heap.size w)
  have H : (cuneiformlaw10_SerialNear.l0 k a0 l1 ([] : List Int) 0) = some r := h
  clear h
  have HC3 := Aside0.mk H
  clear H
  go_enter Try.func6, Try.ntmps6
  go_upto_block 0 with (fail)
  go_cut [5] (fun v5 wc => ∃ (kq : Nat) (x5_2 : List Int), Aside0 (cuneiformlaw10_SerialNear.j1 kq x5_2 ([] : List Int) = some r) ∧ Aside0 (kq ≤ k) ∧ Aside0 (Kd.R (Kd.int .u32) 22 wc w.heap.size (fun k_ => some k_ ≠ ((.slice none 0 0) : Value).ownBlock) v5 x5_2) ∧ Aside0 (Kd.R (Kd.int .u32) 22 wc w.heap.size (fun k_ => some k_ ≠ (v5 : Value).ownBlock) (.slice none 0 0) ([] : List Int)) ∧ Aside0 (Below w.heap.size w wc))
  case first =>
    have H := HC3.out
    clear HC3
    have H' := Aside0.mk H
    clear H
    go_wp2
    go_loopg [5, 7] k (fun kq v5 v7 w' => ∃ (x5_1 : List Int) (x7_1 : Int), v7 = .int .i64 x7_1 ∧ Aside0 (cuneiformlaw10_SerialNear.l0 kq a0 l1 x5_1 x7_1 = some r) ∧ Aside0 (kq ≤ k) ∧ Aside0 (Kd.R (Kd.int .u32) 22 w' w.heap.size (fun _ => True) v5 x5_1) ∧ Aside0 (Below w.heap.size w w'))
    case atStart => exact ⟨(([] : List Int)), (0), (by first | rfl | (simp; done) | (simp [*]; done)), H', ⟨Nat.le_refl _⟩, ⟨by first | exact Kd.R_nil _ _ _ _ _ | exact Kd.N_nil _ _ _ _ _ | exact Kd.V_nil _ _ _ _ _ | exact Kd.Q_nil _ _ _ _ _ | exact Kd.S_nil _ _ _ _ _⟩, ⟨by repeat (first | (with_reducible first | exact HB.out | apply below_alloc | apply pw_below_drewN | apply below_drew1) | exact HB.out)⟩⟩
    case round =>
      clear H'
      try clear c1
      try clear p2
      obtain ⟨x5_1, x7_1, rfl, HA, HK1, HO_5, HB⟩ := hrel
      cases gk with
      | zero => exact absurd HA.out (by simp [cuneiformlaw10_SerialNear.l0])
      | succ k1 =>
        have H := HA.out
        clear HA
        simp only [cuneiformlaw10_SerialNear.l0] at H
        by_cases c4 : x7_1 < (l1.length : Int)
        · rw [if_pos c4] at H
          have c4b0 : decide (x7_1 < (l1.length : Int)) = true := decide_eq_true c4
          clear c4
          (first | rw [c4b0] | (simp only [i64_w, i32_w]; rw [c4b0]) | skip)
          by_cases c5 : x7_1 < 60
          · rw [if_pos c5] at H
            have c5b0 : decide (x7_1 < 60) = true := decide_eq_true c5
            clear c5
            by_cases c6 : 0 ≤ x7_1
            · rw [if_pos c6] at H
              have c6b0 : decide (0 ≤ x7_1) = true := decide_eq_true c6
              clear c6
              by_cases c7 : x5_1.length < 35184372088832
              · rw [if_pos c7] at H
                have LMc7 := Aside0.mk c7
                clear c7
                obtain ⟨y175, hy175⟩ : ∃ y_ : List Int, y_ = (x5_1 ++ [(a0 + (Int.tmod (rd l1 x7_1) 2147483648)) % 4294967296]) := ⟨_, rfl⟩
                replace H : (cuneiformlaw10_SerialNear.l0 k1 a0 l1 y175 (wrap64 (x7_1 + 1))) = some r := by first | (rw [hy175]; with_reducible exact H) | (have H2_ := (Option.bind_some _ _).symm.trans H; rw [hy175]; with_reducible exact H2_) | (have H2_ := (Option.bind_some _ _).symm.trans H; with_reducible exact H2_) | with_reducible exact H | (rw [hy175]; exact H) | exact H
                have Ny175 := Aside0.mk hy175
                clear hy175
                have H' := Aside0.mk H
                clear H
                have p174 : 0 ≤ (x7_1 : Int) := of_decide_eq_true (by first | (with_reducible assumption) | assumption)
                have q174 : x7_1 < (l1.length : Int) := of_decide_eq_true (by first | (with_reducible assumption) | assumption)
                obtain ⟨ad174, e174, hx174_0⟩ := Kd.at_int HR1.out x7_1 p174 q174
                cases e174
                replace hx174_0 := (HB.out.cell (World.block_lt_of_cell? w _ hx174_0)).trans hx174_0
                replace p174 := eq_true p174
                replace q174 := eq_true q174
                go_wp2_with (first | ((with_reducible refine gate_builtin (b := .append) (xs := #[.tmp 28, .tmp 36]) rfl ?_); at_builtin; refine Kd.R_append (Kd.int .u32) (w0 := w) w.heap.size rfl (.tmp 28) (.tmp 36) 29 22 (.int .u32 0) 4 rfl Try.underlying29 info22 rfl (by decide) (by omega) u5 x5_1 ((a0 + (Int.tmod (rd l1 x7_1) 2147483648)) % 4294967296) [.int .u32 ((a0 + (Int.tmod (rd l1 x7_1) 2147483648)) % 4294967296)] (fun _ => True) (fun _ => False) rfl rfl ?aP (fun _ hk => hk.elim) ?aF ?aO ?aB ?aS ?aL ?_; (case aP => exact rfl); (case aB => exact (by repeat (first | (with_reducible first | exact HB.out | apply below_alloc | apply pw_below_drewN | apply below_drew1) | exact HB.out))); (case aF => exact (fun _ _ => trivial)); (case aO => exact (by (with_reducible repeat (first | apply Kd.R_alloc | apply Kd.R_drewN | apply Kd.R_drew)); exact HO_5.out)); (case aS => exact (below_size (by repeat (first | (with_reducible first | exact HB.out | apply below_alloc | apply pw_below_drewN | apply below_drew1) | exact HB.out)))); (case aL => have := LMc7.out; omega); intro v176 w8 ho hb hg hat; rw [← Ny175.out] at ho; have n0_ := Aside0.mk (hb); have n1_ := Aside0.mk (ho); clear HB; clear HO_5; have HB := n0_; have HO177 := n1_; clear n0_ n1_; clear ho hb hg hat))
                go_roundg k1
                case measure => have := HK1.out; omega
                case rel => exact ⟨(y175), (wrap64 (x7_1 + 1)), (by first | rfl | (simp; done) | (simp [*]; done)), H', ⟨by have := HK1.out; omega⟩, ⟨by (with_reducible repeat (first | apply Kd.R_alloc | apply Kd.R_drewN | apply Kd.R_drew)); exact HO177.out⟩, ⟨by repeat (first | (with_reducible first | exact HB.out | apply below_alloc | apply pw_below_drewN | apply below_drew1) | exact HB.out)⟩⟩
              · rw [if_neg c7] at H
                exact absurd H (by simp)
            · rw [if_neg c6] at H
              exact absurd H (by simp)
          · rw [if_neg c5] at H
            have c5b0 : decide (x7_1 < 60) = false := decide_eq_false c5
            clear c5
            have H' := Aside0.mk H
            clear H
            go_wp2
            go_meet
            case rel => exact ⟨_, (x5_1), H', ⟨by have := HK1.out; first | omega | exact Nat.le_refl _⟩, ⟨by (with_reducible repeat (first | apply Kd.R_alloc | apply Kd.R_drewN | apply Kd.R_drew)); exact Kd.R_mono HO_5.out (fun _ hk => (by simp [Value.ownBlock]))⟩, ⟨by first | exact Kd.R_nil _ _ _ _ _ | exact Kd.N_nil _ _ _ _ _ | exact Kd.V_nil _ _ _ _ _ | exact Kd.Q_nil _ _ _ _ _ | exact Kd.S_nil _ _ _ _ _⟩, ⟨by repeat (first | (with_reducible first | exact HB.out | apply below_alloc | apply pw_below_drewN | apply below_drew1) | exact HB.out)⟩⟩
        · rw [if_neg c4] at H
          have c4b0 : decide (x7_1 < (l1.length : Int)) = false := decide_eq_false c4
          clear c4
          (first | rw [c4b0] | (simp only [i64_w, i32_w]; rw [c4b0]) | skip)
          have H' := Aside0.mk H
          clear H
          go_wp2
          go_meet
          case rel => exact ⟨_, (x5_1), H', ⟨by have := HK1.out; first | omega | exact Nat.le_refl _⟩, ⟨by (with_reducible repeat (first | apply Kd.R_alloc | apply Kd.R_drewN | apply Kd.R_drew)); exact Kd.R_mono HO_5.out (fun _ hk => (by simp [Value.ownBlock]))⟩, ⟨by first | exact Kd.R_nil _ _ _ _ _ | exact Kd.N_nil _ _ _ _ _ | exact Kd.V_nil _ _ _ _ _ | exact Kd.Q_nil _ _ _ _ _ | exact Kd.S_nil _ _ _ _ _⟩, ⟨by repeat (first | (with_reducible first | exact HB.out | apply below_alloc | apply pw_below_drewN | apply below_drew1) | exact HB.out)⟩⟩
  case rest =>
    clear HC3
    try clear c1
    try clear p1
    try clear q1
    try clear hx1
    try clear p2
    try clear c4
    try clear c4b0
    try clear c5
    try clear c5b0
    try clear c6
    try clear c6b0
    try clear p6
    try clear c7
    try clear hx174_0
    try clear p174
    try clear p2
    try clear q174
    obtain ⟨kq, x5_2, HA, HJ2, HO_5, HO_6, HB⟩ := hcut
    cases kq with
    | zero => exact absurd HA.out (by simp [cuneiformlaw10_SerialNear.j1])
    | succ kj2 =>
      have H := HA.out
      clear HA
      simp only [cuneiformlaw10_SerialNear.j1] at H
      have H' := Aside0.mk H
      clear H
      obtain ⟨Ao9, co9, eo9⟩ := Kd.R_slice HO_5.out
      subst eo9
      go_wp2
      go_loopg [6, 8] kj2 (fun kq v6 v8 w' => ∃ (x6_2 : List Int) (x8_2 : Int), v8 = .int .i64 x8_2 ∧ Aside0 (cuneiformlaw10_SerialNear.l1 kq x5_2 x6_2 x8_2 = some r) ∧ Aside0 (kq ≤ kj2) ∧ Aside0 (Kd.R (Kd.int .u32) 22 w' w.heap.size (fun k_ => some k_ ≠ (v6 : Value).ownBlock) (.slice Ao9 x5_2.length co9) x5_2) ∧ Aside0 (Kd.R (Kd.int .u32) 22 w' w.heap.size (fun k_ => some k_ ≠ ((.slice Ao9 x5_2.length co9) : Value).ownBlock) v6 x6_2) ∧ Aside0 (Below w.heap.size w w'))
      case atStart => exact ⟨(([] : List Int)), (wrap64 ((x5_2.length : Int) - 1)), (by first | rfl | (simp; done) | (simp [*]; done)), H', ⟨Nat.le_refl _⟩, ⟨by (with_reducible repeat (first | apply Kd.R_alloc | apply Kd.R_drewN | apply Kd.R_drew)); exact HO_5.out⟩, ⟨by (with_reducible repeat (first | apply Kd.R_alloc | apply Kd.R_drewN | apply Kd.R_drew)); exact HO_6.out⟩, ⟨by repeat (first | (with_reducible first | exact HB.out | apply below_alloc | apply pw_below_drewN | apply below_drew1) | exact HB.out)⟩⟩
      case round =>
        clear H'
        try clear c1
        try clear p1
        try clear q1
        try clear hx1
        try clear p2
        try clear c4
        try clear c4b0
        try clear c5
        try clear c5b0
        try clear c6
        try clear c6b0
        try clear p6
        try clear c7
        try clear hx174_0
        try clear p1
        try clear p174
        try clear p2
        try clear p6
        try clear q1
        try clear q174
        obtain ⟨x6_2, x8_2, rfl, HA, HK2, HO_5, HO_6, HB⟩ := hrel
        cases gk with
        | zero => exact absurd HA.out (by simp [cuneiformlaw10_SerialNear.l1])
        | succ k2 =>
          have H := HA.out
          clear HA
          simp only [cuneiformlaw10_SerialNear.l1] at H
          by_cases c10 : x8_2 ≥ 0
          · rw [if_pos c10] at H
            have c10b0 : decide (0 ≤ x8_2) = true := decide_eq_true c10
            clear c10
            by_cases c11 : 0 ≤ x8_2
            · rw [if_pos c11] at H
              have c11b0 : decide (0 ≤ x8_2) = true := decide_eq_true c11
              clear c11
              by_cases c12 : x8_2 < (x5_2.length : Int)
              · rw [if_pos c12] at H
                have c12b0 : decide (x8_2 < (x5_2.length : Int)) = true := decide_eq_true c12
                clear c12
                by_cases c13 : x6_2.length < 35184372088832
                · rw [if_pos c13] at H
                  have LMc13 := Aside0.mk c13
                  clear c13
                  obtain ⟨y179, hy179⟩ : ∃ y_ : List Int, y_ = (x6_2 ++ [rd x5_2 x8_2]) := ⟨_, rfl⟩
                  replace H : (cuneiformlaw10_SerialNear.l1 k2 x5_2 y179 (wrap64 (x8_2 - 1))) = some r := by first | (rw [hy179]; with_reducible exact H) | (have H2_ := (Option.bind_some _ _).symm.trans H; rw [hy179]; with_reducible exact H2_) | (have H2_ := (Option.bind_some _ _).symm.trans H; with_reducible exact H2_) | with_reducible exact H | (rw [hy179]; exact H) | exact H
                  have Ny179 := Aside0.mk hy179
                  clear hy179
                  have H' := Aside0.mk H
                  clear H
                  have p178 : 0 ≤ (x8_2 : Int) := of_decide_eq_true (by first | (with_reducible assumption) | assumption)
                  have q178 : x8_2 < (x5_2.length : Int) := of_decide_eq_true (by first | (with_reducible assumption) | assumption)
                  obtain ⟨ad178, e178, hx178_0⟩ := Kd.at_int (Kd.R_reads' HO_5.out).2.2 x8_2 p178 q178
                  cases e178
                  replace p178 := eq_true p178
                  replace q178 := eq_true q178
                  go_wp2_with (first | ((with_reducible refine gate_builtin (b := .append) (xs := #[.tmp 45, .tmp 50]) rfl ?_); at_builtin; refine Kd.R_append (Kd.int .u32) (w0 := w) w.heap.size rfl (.tmp 45) (.tmp 50) 29 22 (.int .u32 0) 4 rfl Try.underlying29 info22 rfl (by decide) (by omega) u6 x6_2 (rd x5_2 x8_2) [.int .u32 (rd x5_2 x8_2)] (fun k_ => some k_ ≠ (.slice (some ad178) x5_2.length co9 : Value).ownBlock) (fun _ => False) rfl rfl ?aP (fun _ hk => hk.elim) ?aF ?aO ?aB ?aS ?aL ?_; (case aP => exact rfl); (case aB => exact (by repeat (first | (with_reducible first | exact HB.out | apply below_alloc | apply pw_below_drewN | apply below_drew1) | exact HB.out))); (case aF => exact (fun k_ hk => Kd.fresh' (Kd.R_lt (by (with_reducible repeat (first | apply Kd.R_alloc | apply Kd.R_drewN | apply Kd.R_drew)); exact HO_5.out)) k_ hk)); (case aO => exact (by (with_reducible repeat (first | apply Kd.R_alloc | apply Kd.R_drewN | apply Kd.R_drew)); exact HO_6.out)); (case aS => exact (below_size (by repeat (first | (with_reducible first | exact HB.out | apply below_alloc | apply pw_below_drewN | apply below_drew1) | exact HB.out)))); (case aL => have := LMc13.out; omega); intro v180 w14 ho hb hg hat; rw [← Ny179.out] at ho; have n0_ := Aside0.mk (Kd.R_after (ok := (fun _ => True)) (by (with_reducible repeat (first | apply Kd.R_alloc | apply Kd.R_drewN | apply Kd.R_drew)); exact Kd.R_mono HO_5.out (fun _ hk => ⟨trivial, hk⟩)) hg hat); have n1_ := Aside0.mk (hb); have n2_ := Aside0.mk (ho); clear HO_5; clear HB; clear HO_6; have HO_5 := n0_; have HB := n1_; have HO181 := n2_; clear n0_ n1_ n2_; clear ho hb hg hat))
                  go_roundg k2
                  case measure => have := HJ2.out; have := HK2.out; omega
                  case rel => exact ⟨(y179), (wrap64 (x8_2 - 1)), (by first | rfl | (simp; done) | (simp [*]; done)), H', ⟨by have := HJ2.out; have := HK2.out; omega⟩, ⟨by (with_reducible repeat (first | apply Kd.R_alloc | apply Kd.R_drewN | apply Kd.R_drew)); exact Kd.R_mono HO_5.out (fun _ hk => hk.2)⟩, ⟨by (with_reducible repeat (first | apply Kd.R_alloc | apply Kd.R_drewN | apply Kd.R_drew)); exact HO181.out⟩, ⟨by repeat (first | (with_reducible first | exact HB.out | apply below_alloc | apply pw_below_drewN | apply below_drew1) | exact HB.out)⟩⟩
                · rw [if_neg c13] at H
                  exact absurd H (by simp)
              · rw [if_neg c12] at H
                exact absurd H (by simp)
            · rw [if_neg c11] at H
              exact absurd H (by simp)
          · rw [if_neg c10] at H
            have c10b0 : decide (0 ≤ x8_2) = false := decide_eq_false c10
            clear c10
            replace H := Option.bind_eq_some_iff.mp H
            obtain ⟨⟨t182, t183⟩, A150, H⟩ := H
            replace H : ((serial_Oldest.f x5_2).bind fun bt184 => ((serial_Newest.f x6_2).bind fun bt186 => ((serial_Oldest.f x6_2).bind fun bt188 => (if (t183 != (decide ((x5_2.length : Int) > 0))) = true then (cuneiformlaw10_SerialNear.j3 k2 x5_2 t182 bt184.1 true) else (if (bt184.2 != t183) = true then (cuneiformlaw10_SerialNear.j3 k2 x5_2 t182 bt184.1 true) else (if t182 = bt186.1 then (cuneiformlaw10_SerialNear.j3 k2 x5_2 t182 bt184.1 (bt184.1 != bt188.1)) else (cuneiformlaw10_SerialNear.j3 k2 x5_2 t182 bt184.1 true))))))) = some r := H
            have A15 := Aside0.mk A150
            clear A150
            replace H := Option.bind_eq_some_iff.mp H
            obtain ⟨⟨t184, t185⟩, A160, H⟩ := H
            replace H : ((serial_Newest.f x6_2).bind fun bt186 => ((serial_Oldest.f x6_2).bind fun bt188 => (if (t183 != (decide ((x5_2.length : Int) > 0))) = true then (cuneiformlaw10_SerialNear.j3 k2 x5_2 t182 t184 true) else (if (t185 != t183) = true then (cuneiformlaw10_SerialNear.j3 k2 x5_2 t182 t184 true) else (if t182 = bt186.1 then (cuneiformlaw10_SerialNear.j3 k2 x5_2 t182 t184 (t184 != bt188.1)) else (cuneiformlaw10_SerialNear.j3 k2 x5_2 t182 t184 true)))))) = some r := H
            have A16 := Aside0.mk A160
            clear A160
            replace H := Option.bind_eq_some_iff.mp H
            obtain ⟨⟨t186, t187⟩, A170, H⟩ := H
            replace H : ((serial_Oldest.f x6_2).bind fun bt188 => (if (t183 != (decide ((x5_2.length : Int) > 0))) = true then (cuneiformlaw10_SerialNear.j3 k2 x5_2 t182 t184 true) else (if (t185 != t183) = true then (cuneiformlaw10_SerialNear.j3 k2 x5_2 t182 t184 true) else (if t182 = t186 then (cuneiformlaw10_SerialNear.j3 k2 x5_2 t182 t184 (t184 != bt188.1)) else (cuneiformlaw10_SerialNear.j3 k2 x5_2 t182 t184 true))))) = some r := H
            have A17 := Aside0.mk A170
            clear A170
            replace H := Option.bind_eq_some_iff.mp H
            obtain ⟨⟨t188, t189⟩, A180, H⟩ := H
            replace H : (if (t183 != (decide ((x5_2.length : Int) > 0))) = true then (cuneiformlaw10_SerialNear.j3 k2 x5_2 t182 t184 true) else (if (t185 != t183) = true then (cuneiformlaw10_SerialNear.j3 k2 x5_2 t182 t184 true) else (if t182 = t186 then (cuneiformlaw10_SerialNear.j3 k2 x5_2 t182 t184 (t184 != t188)) else (cuneiformlaw10_SerialNear.j3 k2 x5_2 t182 t184 true)))) = some r := H
            have A18 := Aside0.mk A180
            clear A180
            have HC19 := Aside0.mk H
            clear H
            go_upto_region 14 with (first | ((with_reducible refine gate_callee (f := 17) rfl ?_); refine goesL_ (some 54) rfl rfl Try.func17 (by kernel_rfl) rfl #[.slice Ao9 x5_2.length co9] rfl (by (try simp only [List.map_toArray, List.map_cons, List.map_nil]); first | done | rfl | (simp only [List.length_drop, List.length_take]; rfl)) ?_; (with_reducible refine (serial_Newest.calls _ _ x5_2 t182 t183 _ ?side1 ?side2 A15.out).mono ?_); (case side1 => repeat (first | exact (Kd.R_reads' HO_5.out).2.2 | (with_reducible refine Kd.C_alloc ?_ _) | (with_reducible refine Kd.C_drewN ?_ _) | (with_reducible refine Kd.C_drew ?_))); (case side2 => exact (Kd.R_reads' HO_5.out).2.1); rintro e w20 ⟨rfl, hb⟩; refine ⟨_, rfl, ?_⟩; have n0_ := Aside0.mk (Kd.R_below (by (with_reducible repeat (first | apply Kd.R_alloc | apply Kd.R_drewN | apply Kd.R_drew)); exact HO_5.out) hb); have n1_ := Aside0.mk (Kd.R_below (by (with_reducible repeat (first | apply Kd.R_alloc | apply Kd.R_drewN | apply Kd.R_drew)); exact HO_6.out) hb); have n2_ := Aside0.mk (below_step (by repeat (first | (with_reducible first | exact HB.out | apply below_alloc | apply pw_below_drewN | apply below_drew1) | exact HB.out)) hb); clear HO_5; clear HO_6; clear HB; have HO_5 := n0_; have HO_6 := n1_; have HB := n2_; clear n0_ n1_ n2_; (try clear hb); (try clear hb2); (try clear hk); (try clear hi)) | ((with_reducible refine gate_callee (f := 18) rfl ?_); refine goesL_ (some 59) rfl rfl Try.func18 (by kernel_rfl) rfl #[.slice Ao9 x5_2.length co9] rfl (by (try simp only [List.map_toArray, List.map_cons, List.map_nil]); first | done | rfl | (simp only [List.length_drop, List.length_take]; rfl)) ?_; (with_reducible refine (serial_Oldest.calls _ _ x5_2 t184 t185 _ ?side1 ?side2 A16.out).mono ?_); (case side1 => repeat (first | exact (Kd.R_reads' HO_5.out).2.2 | (with_reducible refine Kd.C_alloc ?_ _) | (with_reducible refine Kd.C_drewN ?_ _) | (with_reducible refine Kd.C_drew ?_))); (case side2 => exact (Kd.R_reads' HO_5.out).2.1); rintro e w21 ⟨rfl, hb⟩; refine ⟨_, rfl, ?_⟩; have n0_ := Aside0.mk (Kd.R_below (by (with_reducible repeat (first | apply Kd.R_alloc | apply Kd.R_drewN | apply Kd.R_drew)); exact HO_5.out) hb); have n1_ := Aside0.mk (Kd.R_below (by (with_reducible repeat (first | apply Kd.R_alloc | apply Kd.R_drewN | apply Kd.R_drew)); exact HO_6.out) hb); have n2_ := Aside0.mk (below_step (by repeat (first | (with_reducible first | exact HB.out | apply below_alloc | apply pw_below_drewN | apply below_drew1) | exact HB.out)) hb); clear HO_5; clear HO_6; clear HB; have HO_5 := n0_; have HO_6 := n1_; have HB := n2_; clear n0_ n1_ n2_; (try clear hb); (try clear hb2); (try clear hk); (try clear hi); obtain ⟨Ao22, co22, eo22⟩ := Kd.R_slice HO_6.out; subst eo22) | ((with_reducible refine gate_callee (f := 17) rfl ?_); refine goesL_ (some 64) rfl rfl Try.func17 (by kernel_rfl) rfl #[.slice Ao22 x6_2.length co22] rfl (by (try simp only [List.map_toArray, List.map_cons, List.map_nil]); first | done | rfl | (simp only [List.length_drop, List.length_take]; rfl)) ?_; (with_reducible refine (serial_Newest.calls _ _ x6_2 t186 t187 _ ?side1 ?side2 A17.out).mono ?_); (case side1 => repeat (first | exact (Kd.R_reads' HO_6.out).2.2 | (with_reducible refine Kd.C_alloc ?_ _) | (with_reducible refine Kd.C_drewN ?_ _) | (with_reducible refine Kd.C_drew ?_))); (case side2 => exact (Kd.R_reads' HO_6.out).2.1); rintro e w23 ⟨rfl, hb⟩; refine ⟨_, rfl, ?_⟩; have n0_ := Aside0.mk (Kd.R_below (by (with_reducible repeat (first | apply Kd.R_alloc | apply Kd.R_drewN | apply Kd.R_drew)); exact HO_5.out) hb); have n1_ := Aside0.mk (Kd.R_below (by (with_reducible repeat (first | apply Kd.R_alloc | apply Kd.R_drewN | apply Kd.R_drew)); exact HO_6.out) hb); have n2_ := Aside0.mk (below_step (by repeat (first | (with_reducible first | exact HB.out | apply below_alloc | apply pw_below_drewN | apply below_drew1) | exact HB.out)) hb); clear HO_5; clear HO_6; clear HB; have HO_5 := n0_; have HO_6 := n1_; have HB := n2_; clear n0_ n1_ n2_; (try clear hb); (try clear hb2); (try clear hk); (try clear hi)) | ((with_reducible refine gate_callee (f := 18) rfl ?_); refine goesL_ (some 69) rfl rfl Try.func18 (by kernel_rfl) rfl #[.slice Ao22 x6_2.length co22] rfl (by (try simp only [List.map_toArray, List.map_cons, List.map_nil]); first | done | rfl | (simp only [List.length_drop, List.length_take]; rfl)) ?_; (with_reducible refine (serial_Oldest.calls _ _ x6_2 t188 t189 _ ?side1 ?side2 A18.out).mono ?_); (case side1 => repeat (first | exact (Kd.R_reads' HO_6.out).2.2 | (with_reducible refine Kd.C_alloc ?_ _) | (with_reducible refine Kd.C_drewN ?_ _) | (with_reducible refine Kd.C_drew ?_))); (case side2 => exact (Kd.R_reads' HO_6.out).2.1); rintro e w24 ⟨rfl, hb⟩; refine ⟨_, rfl, ?_⟩; have n0_ := Aside0.mk (Kd.R_below (by (with_reducible repeat (first | apply Kd.R_alloc | apply Kd.R_drewN | apply Kd.R_drew)); exact HO_5.out) hb); have n1_ := Aside0.mk (Kd.R_below (by (with_reducible repeat (first | apply Kd.R_alloc | apply Kd.R_drewN | apply Kd.R_drew)); exact HO_6.out) hb); have n2_ := Aside0.mk (below_step (by repeat (first | (with_reducible first | exact HB.out | apply below_alloc | apply pw_below_drewN | apply below_drew1) | exact HB.out)) hb); clear HO_5; clear HO_6; clear HB; have HO_5 := n0_; have HO_6 := n1_; have HB := n2_; clear n0_ n1_ n2_; (try clear hb); (try clear hb2); (try clear hk); (try clear hi)))
            (try simp only [Act.put, List.setIfInBounds_toArray, List.set_cons_zero, List.set_cons_succ])
            go_cut [91] (fun v91 wc => ∃ (kq : Nat) (x91_18 : Bool), v91 = .bool x91_18 ∧ Aside0 (cuneiformlaw10_SerialNear.j3 kq x5_2 t182 t184 x91_18 = some r) ∧ Aside0 (kq ≤ k2) ∧ Aside0 (Kd.R (Kd.int .u32) 22 wc w.heap.size (fun _ => True) (.slice Ao9 x5_2.length co9) x5_2) ∧ Aside0 (Below w.heap.size w wc))
            case first =>
              have H := HC19.out
              clear HC19
              obtain rfl : t183 = decide (0 < x5_2.length) := Newest_snd A15.out
              obtain rfl : t185 = decide (0 < x5_2.length) := Oldest_snd A16.out
              by_cases c25 : ((decide (0 < x5_2.length)) != (decide ((x5_2.length : Int) > 0))) = true
              · exact absurd c25 (by simp)
              · rw [if_neg c25] at H
                clear c25
                by_cases c26 : ((decide (0 < x5_2.length)) != (decide (0 < x5_2.length))) = true
                · exact absurd c26 (by simp)
                · rw [if_neg c26] at H
                  clear c26
                  by_cases c27 : t182 = t186
                  · rw [if_pos c27] at H
                    have c27b0 : (t182 == t186) = true := beq_iff_eq.mpr c27
                    have c27b1 : (t182 != t186) = false := bne_eq_false_iff_eq.mpr c27
                    clear c27
                    have H' := Aside0.mk H
                    clear H
                    go_wp2
                    go_meet
                    case rel => exact ⟨_, ((t184 != t188)), (by first | rfl | (simp; done) | (simp [*]; done)), H', ⟨by have := HJ2.out; have := HK2.out; first | omega | exact Nat.le_refl _⟩, ⟨by (with_reducible repeat (first | apply Kd.R_alloc | apply Kd.R_drewN | apply Kd.R_drew)); exact Kd.R_mono HO_5.out (fun _ hk => trivial)⟩, ⟨by repeat (first | (with_reducible first | exact HB.out | apply below_alloc | apply pw_below_drewN | apply below_drew1) | exact HB.out)⟩⟩
                  · rw [if_neg c27] at H
                    have c27b0 : (t182 == t186) = false := beq_eq_false_iff_ne.mpr c27
                    have c27b1 : (t182 != t186) = true := bne_iff_ne.mpr c27
                    have H' := Aside0.mk H
                    clear H
                    go_wp2
                    go_meet
                    case rel => exact ⟨_, (true), (by first | rfl | (simp; done) | (simp [*]; done)), H', ⟨by have := HJ2.out; have := HK2.out; first | omega | exact Nat.le_refl _⟩, ⟨by (with_reducible repeat (first | apply Kd.R_alloc | apply Kd.R_drewN | apply Kd.R_drew)); exact Kd.R_mono HO_5.out (fun _ hk => trivial)⟩, ⟨by repeat (first | (with_reducible first | exact HB.out | apply below_alloc | apply pw_below_drewN | apply below_drew1) | exact HB.out)⟩⟩
            case rest =>
              clear HC19
              obtain rfl : t183 = decide (0 < x5_2.length) := Newest_snd A15.out
              obtain rfl : t185 = decide (0 < x5_2.length) := Oldest_snd A16.out
              try clear c1
              try clear p1
              try clear q1
              try clear hx1
              try clear c2
              try clear p2
              try clear c4
              try clear c4b0
              try clear c5
              try clear c5b0
              try clear c6
              try clear c6b0
              try clear p6
              try clear c7
              try clear c10
              try clear c10b0
              try clear c11
              try clear c11b0
              try clear c12
              try clear c12b0
              try clear c13
              try clear c17
              try clear p17
              try clear q17
              try clear hx17
              try clear c18
              try clear c25
              try clear c25b0
              try clear c25b1
              try clear c25b2
              try clear c26
              try clear c26b0
              try clear c26b1
              try clear c26b2
              try clear c27
              try clear c27b0
              try clear c27b1
              try clear hx174_0
              try clear hx178_0
              try clear p1
              try clear p174
              try clear p178
              try clear p2
              try clear p6
              try clear q1
              try clear q174
              try clear q178
              obtain ⟨kq, x91_18, rfl, HA, HJ18, HO_5, HB⟩ := hcut
              cases kq with
              | zero => exact absurd HA.out (by simp [cuneiformlaw10_SerialNear.j3])
              | succ kj18 =>
                have H := HA.out
                clear HA
                simp only [cuneiformlaw10_SerialNear.j3] at H
                by_cases c28 : x91_18 = true
                · subst c28
                  have H1 : (some false) = some r := by rw [if_pos rfl] at H; exact H
                  clear H
                  have H := H1
                  clear H1
                  obtain rfl := Option.some.inj H
                  go_wp2
                  go_ret
                  exact ⟨by first | rfl | (simp [errW_none, errW_some] <;> rfl) | (simp [*, errW_none, errW_some] <;> rfl), by repeat (first | (with_reducible first | exact HB.out | apply below_alloc | apply pw_below_drewN | apply below_drew1) | exact HB.out)⟩
                · replace c28 := Bool.eq_false_iff.mpr c28
                  subst c28
                  have H1 : (cuneiformlaw10_SerialNear.l2 kj18 x5_2 t182 t184 0) = some r := by rw [if_neg (show ¬ (false = true) by decide)] at H; exact H
                  clear H
                  have H := H1
                  clear H1
                  have H' := Aside0.mk H
                  clear H
                  go_wp2
                  go_loopg [17] kj18 (fun kq v17 w' => ∃ (x17_4 : Int), v17 = .int .i64 x17_4 ∧ Aside0 (cuneiformlaw10_SerialNear.l2 kq x5_2 t182 t184 x17_4 = some r) ∧ Aside0 (kq ≤ kj18) ∧ Aside0 (Kd.R (Kd.int .u32) 22 w' w.heap.size (fun _ => True) (.slice Ao9 x5_2.length co9) x5_2) ∧ Aside0 (Below w.heap.size w w'))
                  case atStart => exact ⟨(0), (by first | rfl | (simp; done) | (simp [*]; done)), H', ⟨Nat.le_refl _⟩, ⟨by (with_reducible repeat (first | apply Kd.R_alloc | apply Kd.R_drewN | apply Kd.R_drew)); exact HO_5.out⟩, ⟨by repeat (first | (with_reducible first | exact HB.out | apply below_alloc | apply pw_below_drewN | apply below_drew1) | exact HB.out)⟩⟩
                  case round =>
                    clear H'
                    try clear c1
                    try clear p1
                    try clear q1
                    try clear hx1
                    try clear c2
                    try clear p2
                    try clear c4
                    try clear c4b0
                    try clear c5
                    try clear c5b0
                    try clear c6
                    try clear c6b0
                    try clear p6
                    try clear c7
                    try clear c10
                    try clear c10b0
                    try clear c11
                    try clear c11b0
                    try clear c12
                    try clear c12b0
                    try clear c13
                    try clear c17
                    try clear p17
                    try clear q17
                    try clear hx17
                    try clear c18
                    try clear c25
                    try clear c25b0
                    try clear c25b1
                    try clear c25b2
                    try clear c26
                    try clear c26b0
                    try clear c26b1
                    try clear c26b2
                    try clear c27
                    try clear c27b0
                    try clear c27b1
                    try clear c28
                    try clear hx174_0
                    try clear hx178_0
                    try clear p1
                    try clear p17
                    try clear p174
                    try clear p178
                    try clear p2
                    try clear p6
                    try clear q1
                    try clear q17
                    try clear q174
                    try clear q178
                    obtain ⟨x17_4, rfl, HA, HK4, HO_5, HB⟩ := hrel
                    cases gk with
                    | zero => exact absurd HA.out (by simp [cuneiformlaw10_SerialNear.l2])
                    | succ k4 =>
                      have H := HA.out
                      clear HA
                      simp only [cuneiformlaw10_SerialNear.l2] at H
                      by_cases c29 : x17_4 < (x5_2.length : Int)
                      · rw [if_pos c29] at H
                        have c29b0 : decide (x17_4 < (x5_2.length : Int)) = true := decide_eq_true c29
                        clear c29
                        by_cases c30 : 0 ≤ x17_4
                        · rw [if_pos c30] at H
                          have c30b0 : decide (0 ≤ x17_4) = true := decide_eq_true c30
                          clear c30
                          by_cases c31 : (rd x5_2 x17_4) = t182
                          · rw [if_pos c31] at H
                            have c31b0 : ((rd x5_2 x17_4) == t182) = true := beq_iff_eq.mpr c31
                            have c31b1 : ((rd x5_2 x17_4) != t182) = false := bne_eq_false_iff_eq.mpr c31
                            clear c31
                            by_cases c32 : (rd x5_2 x17_4) = t184
                            · rw [if_pos c32] at H
                              have c32b0 : ((rd x5_2 x17_4) == t184) = true := beq_iff_eq.mpr c32
                              have c32b1 : ((rd x5_2 x17_4) != t184) = false := bne_eq_false_iff_eq.mpr c32
                              clear c32
                              have H' := Aside0.mk H
                              clear H
                              have p191 : 0 ≤ (x17_4 : Int) := of_decide_eq_true (by first | (with_reducible assumption) | assumption)
                              have q191 : x17_4 < (x5_2.length : Int) := of_decide_eq_true (by first | (with_reducible assumption) | assumption)
                              obtain ⟨ad191, e191, hx191_0⟩ := Kd.at_int (Kd.R_reads' HO_5.out).2.2 x17_4 p191 q191
                              cases e191
                              replace p191 := eq_true p191
                              replace q191 := eq_true q191
                              have p192 : 0 ≤ (x17_4 : Int) := of_decide_eq_true (by first | (with_reducible assumption) | assumption)
                              have q192 : x17_4 < (x5_2.length : Int) := of_decide_eq_true (by first | (with_reducible assumption) | assumption)
                              obtain ⟨ad192, e192, hx192_0⟩ := Kd.at_int (Kd.R_reads' HO_5.out).2.2 x17_4 p192 q192
                              obtain rfl : ad191 = ad192 := (by injection e192)
                              replace p192 := eq_true p192
                              replace q192 := eq_true q192
                              go_wp2
                              go_roundg k4
                              case measure => have := HJ2.out; have := HK2.out; have := HJ18.out; have := HK4.out; omega
                              case rel => exact ⟨(wrap64 (x17_4 + 1)), (by first | rfl | (simp; done) | (simp [*]; done)), H', ⟨by have := HJ2.out; have := HK2.out; have := HJ18.out; have := HK4.out; omega⟩, ⟨by (with_reducible repeat (first | apply Kd.R_alloc | apply Kd.R_drewN | apply Kd.R_drew)); exact HO_5.out⟩, ⟨by repeat (first | (with_reducible first | exact HB.out | apply below_alloc | apply pw_below_drewN | apply below_drew1) | exact HB.out)⟩⟩
                            · rw [if_neg c32] at H
                              have c32b0 : ((rd x5_2 x17_4) == t184) = false := beq_eq_false_iff_ne.mpr c32
                              have c32b1 : ((rd x5_2 x17_4) != t184) = true := bne_iff_ne.mpr c32
                              replace H := Option.bind_eq_some_iff.mp H
                              obtain ⟨t194, A330, H⟩ := H
                              replace H : (if t194 = true then (cuneiformlaw10_SerialNear.l2 k4 x5_2 t182 t184 (wrap64 (x17_4 + 1))) else (some false)) = some r := H
                              have A33 := Aside0.mk A330
                              clear A330
                              by_cases c34 : t194 = true
                              · subst c34
                                have H1 : (cuneiformlaw10_SerialNear.l2 k4 x5_2 t182 t184 (wrap64 (x17_4 + 1))) = some r := by rw [if_pos rfl] at H; exact H
                                clear H
                                have H := H1
                                clear H1
                                have H' := Aside0.mk H
                                clear H
                                have p191 : 0 ≤ (x17_4 : Int) := of_decide_eq_true (by first | (with_reducible assumption) | assumption)
                                have q191 : x17_4 < (x5_2.length : Int) := of_decide_eq_true (by first | (with_reducible assumption) | assumption)
                                obtain ⟨ad191, e191, hx191_0⟩ := Kd.at_int (Kd.R_reads' HO_5.out).2.2 x17_4 p191 q191
                                cases e191
                                replace p191 := eq_true p191
                                replace q191 := eq_true q191
                                have p192 : 0 ≤ (x17_4 : Int) := of_decide_eq_true (by first | (with_reducible assumption) | assumption)
                                have q192 : x17_4 < (x5_2.length : Int) := of_decide_eq_true (by first | (with_reducible assumption) | assumption)
                                obtain ⟨ad192, e192, hx192_0⟩ := Kd.at_int (Kd.R_reads' HO_5.out).2.2 x17_4 p192 q192
                                obtain rfl : ad191 = ad192 := (by injection e192)
                                replace p192 := eq_true p192
                                replace q192 := eq_true q192
                                have p193 : 0 ≤ (x17_4 : Int) := of_decide_eq_true (by first | (with_reducible assumption) | assumption)
                                have q193 : x17_4 < (x5_2.length : Int) := of_decide_eq_true (by first | (with_reducible assumption) | assumption)
                                obtain ⟨ad193, e193, hx193_0⟩ := Kd.at_int (Kd.R_reads' HO_5.out).2.2 x17_4 p193 q193
                                obtain rfl : ad191 = ad193 := (by injection e193)
                                replace p193 := eq_true p193
                                replace q193 := eq_true q193
                                go_wp2_with (first | (go_at_call 13; (with_reducible refine (serial_After.calls (rd x5_2 x17_4) t184 true _ A33.out).mono ?_); rintro e w' ⟨rfl, ⟨nd, rfl⟩⟩))
                                go_roundg k4
                                case measure => have := HJ2.out; have := HK2.out; have := HJ18.out; have := HK4.out; omega
                                case rel => exact ⟨(wrap64 (x17_4 + 1)), (by first | rfl | (simp; done) | (simp [*]; done)), H', ⟨by have := HJ2.out; have := HK2.out; have := HJ18.out; have := HK4.out; omega⟩, ⟨by (with_reducible repeat (first | apply Kd.R_alloc | apply Kd.R_drewN | apply Kd.R_drew)); exact HO_5.out⟩, ⟨by repeat (first | (with_reducible first | exact HB.out | apply below_alloc | apply pw_below_drewN | apply below_drew1) | exact HB.out)⟩⟩
                              · replace c34 := Bool.eq_false_iff.mpr c34
                                subst c34
                                have H1 : (some false) = some r := by rw [if_neg (show ¬ (false = true) by decide)] at H; exact H
                                clear H
                                have H := H1
                                clear H1
                                obtain rfl := Option.some.inj H
                                have p191 : 0 ≤ (x17_4 : Int) := of_decide_eq_true (by first | (with_reducible assumption) | assumption)
                                have q191 : x17_4 < (x5_2.length : Int) := of_decide_eq_true (by first | (with_reducible assumption) | assumption)
                                obtain ⟨ad191, e191, hx191_0⟩ := Kd.at_int (Kd.R_reads' HO_5.out).2.2 x17_4 p191 q191
                                cases e191
                                replace p191 := eq_true p191
                                replace q191 := eq_true q191
                                have p192 : 0 ≤ (x17_4 : Int) := of_decide_eq_true (by first | (with_reducible assumption) | assumption)
                                have q192 : x17_4 < (x5_2.length : Int) := of_decide_eq_true (by first | (with_reducible assumption) | assumption)
                                obtain ⟨ad192, e192, hx192_0⟩ := Kd.at_int (Kd.R_reads' HO_5.out).2.2 x17_4 p192 q192
                                obtain rfl : ad191 = ad192 := (by injection e192)
                                replace p192 := eq_true p192
                                replace q192 := eq_true q192
                                have p193 : 0 ≤ (x17_4 : Int) := of_decide_eq_true (by first | (with_reducible assumption) | assumption)
                                have q193 : x17_4 < (x5_2.length : Int) := of_decide_eq_true (by first | (with_reducible assumption) | assumption)
                                obtain ⟨ad193, e193, hx193_0⟩ := Kd.at_int (Kd.R_reads' HO_5.out).2.2 x17_4 p193 q193
                                obtain rfl : ad191 = ad193 := (by injection e193)
                                replace p193 := eq_true p193
                                replace q193 := eq_true q193
                                go_wp2_with (first | (go_at_call 13; (with_reducible refine (serial_After.calls (rd x5_2 x17_4) t184 false _ A33.out).mono ?_); rintro e w' ⟨rfl, ⟨nd, rfl⟩⟩))
                                go_ret
                                exact ⟨by first | rfl | (simp [errW_none, errW_some] <;> rfl) | (simp [*, errW_none, errW_some] <;> rfl), by repeat (first | (with_reducible first | exact HB.out | apply below_alloc | apply pw_below_drewN | apply below_drew1) | exact HB.out)⟩
                          · rw [if_neg c31] at H
                            have c31b0 : ((rd x5_2 x17_4) == t182) = false := beq_eq_false_iff_ne.mpr c31
                            have c31b1 : ((rd x5_2 x17_4) != t182) = true := bne_iff_ne.mpr c31
                            replace H := Option.bind_eq_some_iff.mp H
                            obtain ⟨t196, A350, H⟩ := H
                            replace H : (if t196 = true then (if (rd x5_2 x17_4) = t184 then (cuneiformlaw10_SerialNear.l2 k4 x5_2 t182 t184 (wrap64 (x17_4 + 1))) else ((serial_After.f (rd x5_2 x17_4) t184).bind fun t199 => (if t199 = true then (cuneiformlaw10_SerialNear.l2 k4 x5_2 t182 t184 (wrap64 (x17_4 + 1))) else (some false)))) else (some false)) = some r := H
                            have A35 := Aside0.mk A350
                            clear A350
                            by_cases c36 : t196 = true
                            · subst c36
                              have H1 : (if (rd x5_2 x17_4) = t184 then (cuneiformlaw10_SerialNear.l2 k4 x5_2 t182 t184 (wrap64 (x17_4 + 1))) else ((serial_After.f (rd x5_2 x17_4) t184).bind fun t199 => (if t199 = true then (cuneiformlaw10_SerialNear.l2 k4 x5_2 t182 t184 (wrap64 (x17_4 + 1))) else (some false)))) = some r := by rw [if_pos rfl] at H; exact H
                              clear H
                              have H := H1
                              clear H1
                              by_cases c37 : (rd x5_2 x17_4) = t184
                              · rw [if_pos c37] at H
                                have c37b0 : ((rd x5_2 x17_4) == t184) = true := beq_iff_eq.mpr c37
                                have c37b1 : ((rd x5_2 x17_4) != t184) = false := bne_eq_false_iff_eq.mpr c37
                                clear c37
                                have H' := Aside0.mk H
                                clear H
                                have p191 : 0 ≤ (x17_4 : Int) := of_decide_eq_true (by first | (with_reducible assumption) | assumption)
                                have q191 : x17_4 < (x5_2.length : Int) := of_decide_eq_true (by first | (with_reducible assumption) | assumption)
                                obtain ⟨ad191, e191, hx191_0⟩ := Kd.at_int (Kd.R_reads' HO_5.out).2.2 x17_4 p191 q191
                                cases e191
                                replace p191 := eq_true p191
                                replace q191 := eq_true q191
                                have p195 : 0 ≤ (x17_4 : Int) := of_decide_eq_true (by first | (with_reducible assumption) | assumption)
                                have q195 : x17_4 < (x5_2.length : Int) := of_decide_eq_true (by first | (with_reducible assumption) | assumption)
                                obtain ⟨ad195, e195, hx195_0⟩ := Kd.at_int (Kd.R_reads' HO_5.out).2.2 x17_4 p195 q195
                                obtain rfl : ad191 = ad195 := (by injection e195)
                                replace p195 := eq_true p195
                                replace q195 := eq_true q195
                                go_wp2_with (first | (go_at_call 13; (with_reducible refine (serial_After.calls t182 (rd x5_2 x17_4) true _ A35.out).mono ?_); rintro e w' ⟨rfl, ⟨nd, rfl⟩⟩; have p197 : 0 ≤ (x17_4 : Int) := of_decide_eq_true (by first | (with_reducible assumption) | assumption); have q197 : x17_4 < (x5_2.length : Int) := of_decide_eq_true (by first | (with_reducible assumption) | assumption); obtain ⟨ad197, e197, hx197_0⟩ := Kd.at_int (Kd.R_reads' HO_5.out).2.2 x17_4 p197 q197; obtain rfl : ad191 = ad197 := (by injection e197); replace p197 := eq_true p197; replace q197 := eq_true q197))
                                go_roundg k4
                                case measure => have := HJ2.out; have := HK2.out; have := HJ18.out; have := HK4.out; omega
                                case rel => exact ⟨(wrap64 (x17_4 + 1)), (by first | rfl | (simp; done) | (simp [*]; done)), H', ⟨by have := HJ2.out; have := HK2.out; have := HJ18.out; have := HK4.out; omega⟩, ⟨by (with_reducible repeat (first | apply Kd.R_alloc | apply Kd.R_drewN | apply Kd.R_drew)); exact HO_5.out⟩, ⟨by repeat (first | (with_reducible first | exact HB.out | apply below_alloc | apply pw_below_drewN | apply below_drew1) | exact HB.out)⟩⟩
                              · rw [if_neg c37] at H
                                have c37b0 : ((rd x5_2 x17_4) == t184) = false := beq_eq_false_iff_ne.mpr c37
                                have c37b1 : ((rd x5_2 x17_4) != t184) = true := bne_iff_ne.mpr c37
                                replace H := Option.bind_eq_some_iff.mp H
                                obtain ⟨t199, A380, H⟩ := H
                                replace H : (if t199 = true then (cuneiformlaw10_SerialNear.l2 k4 x5_2 t182 t184 (wrap64 (x17_4 + 1))) else (some false)) = some r := H
                                have A38 := Aside0.mk A380
                                clear A380
                                by_cases c39 : t199 = true
                                · subst c39
                                  have H1 : (cuneiformlaw10_SerialNear.l2 k4 x5_2 t182 t184 (wrap64 (x17_4 + 1))) = some r := by rw [if_pos rfl] at H; exact H
                                  clear H
                                  have H := H1
                                  clear H1
                                  have H' := Aside0.mk H
                                  clear H
                                  have p191 : 0 ≤ (x17_4 : Int) := of_decide_eq_true (by first | (with_reducible assumption) | assumption)
                                  have q191 : x17_4 < (x5_2.length : Int) := of_decide_eq_true (by first | (with_reducible assumption) | assumption)
                                  obtain ⟨ad191, e191, hx191_0⟩ := Kd.at_int (Kd.R_reads' HO_5.out).2.2 x17_4 p191 q191
                                  cases e191
                                  replace p191 := eq_true p191
                                  replace q191 := eq_true q191
                                  have p195 : 0 ≤ (x17_4 : Int) := of_decide_eq_true (by first | (with_reducible assumption) | assumption)
                                  have q195 : x17_4 < (x5_2.length : Int) := of_decide_eq_true (by first | (with_reducible assumption) | assumption)
                                  obtain ⟨ad195, e195, hx195_0⟩ := Kd.at_int (Kd.R_reads' HO_5.out).2.2 x17_4 p195 q195
                                  obtain rfl : ad191 = ad195 := (by injection e195)
                                  replace p195 := eq_true p195
                                  replace q195 := eq_true q195
                                  go_wp2_with (first | (go_at_call 13; (with_reducible refine (serial_After.calls t182 (rd x5_2 x17_4) true _ A35.out).mono ?_); rintro e w' ⟨rfl, ⟨nd, rfl⟩⟩; have p197 : 0 ≤ (x17_4 : Int) := of_decide_eq_true (by first | (with_reducible assumption) | assumption); have q197 : x17_4 < (x5_2.length : Int) := of_decide_eq_true (by first | (with_reducible assumption) | assumption); obtain ⟨ad197, e197, hx197_0⟩ := Kd.at_int (Kd.R_reads' HO_5.out).2.2 x17_4 p197 q197; obtain rfl : ad191 = ad197 := (by injection e197); replace p197 := eq_true p197; replace q197 := eq_true q197; have p198 : 0 ≤ (x17_4 : Int) := of_decide_eq_true (by first | (with_reducible assumption) | assumption); have q198 : x17_4 < (x5_2.length : Int) := of_decide_eq_true (by first | (with_reducible assumption) | assumption); obtain ⟨ad198, e198, hx198_0⟩ := Kd.at_int (Kd.R_reads' HO_5.out).2.2 x17_4 p198 q198; obtain rfl : ad191 = ad198 := (by injection e198); replace p198 := eq_true p198; replace q198 := eq_true q198) | (go_at_call 13; (with_reducible refine (serial_After.calls (rd x5_2 x17_4) t184 true _ A38.out).mono ?_); rintro e w' ⟨rfl, ⟨nd, rfl⟩⟩))
                                  go_roundg k4
                                  case measure => have := HJ2.out; have := HK2.out; have := HJ18.out; have := HK4.out; omega
                                  case rel => exact ⟨(wrap64 (x17_4 + 1)), (by first | rfl | (simp; done) | (simp [*]; done)), H', ⟨by have := HJ2.out; have := HK2.out; have := HJ18.out; have := HK4.out; omega⟩, ⟨by (with_reducible repeat (first | apply Kd.R_alloc | apply Kd.R_drewN | apply Kd.R_drew)); exact HO_5.out⟩, ⟨by repeat (first | (with_reducible first | exact HB.out | apply below_alloc | apply pw_below_drewN | apply below_drew1) | exact HB.out)⟩⟩
                                · replace c39 := Bool.eq_false_iff.mpr c39
                                  subst c39
                                  have H1 : (some false) = some r := by rw [if_neg (show ¬ (false = true) by decide)] at H; exact H
                                  clear H
                                  have H := H1
                                  clear H1
                                  obtain rfl := Option.some.inj H
                                  have p191 : 0 ≤ (x17_4 : Int) := of_decide_eq_true (by first | (with_reducible assumption) | assumption)
                                  have q191 : x17_4 < (x5_2.length : Int) := of_decide_eq_true (by first | (with_reducible assumption) | assumption)
                                  obtain ⟨ad191, e191, hx191_0⟩ := Kd.at_int (Kd.R_reads' HO_5.out).2.2 x17_4 p191 q191
                                  cases e191
                                  replace p191 := eq_true p191
                                  replace q191 := eq_true q191
                                  have p195 : 0 ≤ (x17_4 : Int) := of_decide_eq_true (by first | (with_reducible assumption) | assumption)
                                  have q195 : x17_4 < (x5_2.length : Int) := of_decide_eq_true (by first | (with_reducible assumption) | assumption)
                                  obtain ⟨ad195, e195, hx195_0⟩ := Kd.at_int (Kd.R_reads' HO_5.out).2.2 x17_4 p195 q195
                                  obtain rfl : ad191 = ad195 := (by injection e195)
                                  replace p195 := eq_true p195
                                  replace q195 := eq_true q195
                                  go_wp2_with (first | (go_at_call 13; (with_reducible refine (serial_After.calls t182 (rd x5_2 x17_4) true _ A35.out).mono ?_); rintro e w' ⟨rfl, ⟨nd, rfl⟩⟩; have p197 : 0 ≤ (x17_4 : Int) := of_decide_eq_true (by first | (with_reducible assumption) | assumption); have q197 : x17_4 < (x5_2.length : Int) := of_decide_eq_true (by first | (with_reducible assumption) | assumption); obtain ⟨ad197, e197, hx197_0⟩ := Kd.at_int (Kd.R_reads' HO_5.out).2.2 x17_4 p197 q197; obtain rfl : ad191 = ad197 := (by injection e197); replace p197 := eq_true p197; replace q197 := eq_true q197; have p198 : 0 ≤ (x17_4 : Int) := of_decide_eq_true (by first | (with_reducible assumption) | assumption); have q198 : x17_4 < (x5_2.length : Int) := of_decide_eq_true (by first | (with_reducible assumption) | assumption); obtain ⟨ad198, e198, hx198_0⟩ := Kd.at_int (Kd.R_reads' HO_5.out).2.2 x17_4 p198 q198; obtain rfl : ad191 = ad198 := (by injection e198); replace p198 := eq_true p198; replace q198 := eq_true q198) | (go_at_call 13; (with_reducible refine (serial_After.calls (rd x5_2 x17_4) t184 false _ A38.out).mono ?_); rintro e w' ⟨rfl, ⟨nd, rfl⟩⟩))
                                  go_ret
                                  exact ⟨by first | rfl | (simp [errW_none, errW_some] <;> rfl) | (simp [*, errW_none, errW_some] <;> rfl), by repeat (first | (with_reducible first | exact HB.out | apply below_alloc | apply pw_below_drewN | apply below_drew1) | exact HB.out)⟩
                            · replace c36 := Bool.eq_false_iff.mpr c36
                              subst c36
                              have H1 : (some false) = some r := by rw [if_neg (show ¬ (false = true) by decide)] at H; exact H
                              clear H
                              have H := H1
                              clear H1
                              obtain rfl := Option.some.inj H
                              have p191 : 0 ≤ (x17_4 : Int) := of_decide_eq_true (by first | (with_reducible assumption) | assumption)
                              have q191 : x17_4 < (x5_2.length : Int) := of_decide_eq_true (by first | (with_reducible assumption) | assumption)
                              obtain ⟨ad191, e191, hx191_0⟩ := Kd.at_int (Kd.R_reads' HO_5.out).2.2 x17_4 p191 q191
                              cases e191
                              replace p191 := eq_true p191
                              replace q191 := eq_true q191
                              have p195 : 0 ≤ (x17_4 : Int) := of_decide_eq_true (by first | (with_reducible assumption) | assumption)
                              have q195 : x17_4 < (x5_2.length : Int) := of_decide_eq_true (by first | (with_reducible assumption) | assumption)
                              obtain ⟨ad195, e195, hx195_0⟩ := Kd.at_int (Kd.R_reads' HO_5.out).2.2 x17_4 p195 q195
                              obtain rfl : ad191 = ad195 := (by injection e195)
                              replace p195 := eq_true p195
                              replace q195 := eq_true q195
                              go_wp2_with (first | (go_at_call 13; (with_reducible refine (serial_After.calls t182 (rd x5_2 x17_4) false _ A35.out).mono ?_); rintro e w' ⟨rfl, ⟨nd, rfl⟩⟩))
                              go_ret
                              exact ⟨by first | rfl | (simp [errW_none, errW_some] <;> rfl) | (simp [*, errW_none, errW_some] <;> rfl), by repeat (first | (with_reducible first | exact HB.out | apply below_alloc | apply pw_below_drewN | apply below_drew1) | exact HB.out)⟩
                        · rw [if_neg c30] at H
                          exact absurd H (by simp)
                      · rw [if_neg c29] at H
                        have c29b0 : decide (x17_4 < (x5_2.length : Int)) = false := decide_eq_false c29
                        clear c29
                        replace H := Option.bind_eq_some_iff.mp H
                        obtain ⟨t190, A400, H⟩ := H
                        replace H : (some t190) = some r := H
                        have A40 := Aside0.mk A400
                        clear A400
                        obtain rfl := Option.some.inj H
                        go_wp2_with (first | ((with_reducible refine gate_callee (f := 8) rfl ?_); refine goesL_ (some 130) rfl rfl Try.func8 (by kernel_rfl) rfl #[] rfl (by (try simp only [List.map_toArray, List.map_cons, List.map_nil]); first | done | rfl | (simp only [List.length_drop, List.length_take]; rfl)) ?_; (with_reducible refine (cuneiformlaw10_known.calls  t190 _ A40.out).mono ?_); rintro e w41 ⟨rfl, hb⟩; refine ⟨_, rfl, ?_⟩; have n0_ := Aside0.mk (Kd.R_below (by (with_reducible repeat (first | apply Kd.R_alloc | apply Kd.R_drewN | apply Kd.R_drew)); exact HO_5.out) hb); have n1_ := Aside0.mk (below_step (by repeat (first | (with_reducible first | exact HB.out | apply below_alloc | apply pw_below_drewN | apply below_drew1) | exact HB.out)) hb); clear HO_5; clear HB; have HO_5 := n0_; have HB := n1_; clear n0_ n1_; (try clear hb); (try clear hb2); (try clear hk); (try clear hi)))
                        go_ret
                        exact ⟨by first | rfl | (simp [errW_none, errW_some] <;> rfl) | (simp [*, errW_none, errW_some] <;> rfl), by repeat (first | (with_reducible first | exact HB.out | apply below_alloc | apply pw_below_drewN | apply below_drew1) | exact HB.out)⟩

/-- THE ONE PURE STATEMENT of cuneiformlaw10_SerialNear: yours. -/
def cuneiformlaw10_SerialNear.Pure : Prop := ∀ (a0 : Int) (l1 : List Int), (Lit.int .u32 a0).wf = true → l1.length ≤ maxLen → l1.length * 4 ≤ 140737488351232 → (∀ x ∈ l1, (Lit.int .u32 x).wf = true) → ∃ k, cuneiformlaw10_SerialNear.f k a0 l1 = some true
theorem cuneiformlaw10_SerialNear.walk (P : cuneiformlaw10_SerialNear.Pure) (a0 : Int) (a1 : Option Addr) (len1 cap1 : Nat) (z1 : List Int) (w : World) (w0 : (Lit.int .u32 a0).wf = true) (w1 : (a1 = none ∧ len1 = 0 ∧ cap1 = 0 ∧ z1 = []) ∨ ∃ x, a1 = some x ∧ len1 ≤ cap1 ∧ cap1 ≤ maxLen ∧ z1.length = cap1 ∧ (∀ i, i < z1.length → w.cell? (x.add i) = some (.int .u32 (z1.getD i 0))) ∧ ∀ n ∈ z1, (Lit.int .u32 n).wf = true) (y1 : len1 * 4 ≤ 140737488351232) :
    Calls Try.prog 6 #[.int .u32 a0, .slice a1 len1 cap1] w fun e w' => e = .returned (.bool true) ∧ Below w.heap.size w w' := by
  obtain ⟨l1, rfl, hr1, hm1, hw1, hc1⟩ := ReadsInt.ofRowC w1
  obtain ⟨k, h⟩ := P a0 l1 w0 hm1 y1 hw1
  refine (cuneiformlaw10_SerialNear.calls k a0 _ _ l1 true w (Kd.C_of_reads (d := (0 : Int)) (h1 := fun _ => rfl) hr1) hc1 h).mono ?_
  rintro e w' ⟨rfl, hd⟩
  exact ⟨rfl, hd⟩

-- NOT PRINTED: function 20 (serial_Run)

-- by hand: function 7 (cuneiformlaw10_SerialRuns)

end Go.Proofs.Ytdgphdkebegidaa.P
