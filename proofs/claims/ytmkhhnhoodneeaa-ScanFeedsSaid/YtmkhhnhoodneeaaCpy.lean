/- scan: Copy. -/
import Derived.Test.YtmkhhnhoodneeaaLiv
import Derived.Test.YtmkhhnhoodneeaaHoist
set_option linter.unusedVariables false
set_option linter.unusedSimpArgs false
namespace Go.Proofs.Ytmkhhnhoodneeaa
open Go.RowKit Go.Proofs.YtmkhhnhoodneeaaW.PrintWords Go.Proofs.YtmkhhnhoodneeaaW.PrintMore
attribute [local go_sem] Oper.semAt_some

theorem eql_slice_some (ad : Addr) (n c : Nat) (w : World) : (binOp .eql 22 (.slice (some ad) n c) (.slice none 0 0)).run Try.prog w = .ok (.bool false) w := by kernel_rfl
theorem eql_slice_none (n c : Nat) (w : World) : (binOp .eql 22 (.slice none n c) (.slice none 0 0)).run Try.prog w = .ok (.bool true) w := by kernel_rfl
attribute [local go_sem] eql_slice_some eql_slice_none
set_option maxRecDepth 100000 in
set_option maxHeartbeats 2000000 in
theorem clone_call (w : World) (A : Option Addr) (c : Nat) (xs : List Int) (hA : (Kd.int .u8).C w A xs.length xs) (hl : xs.length ≤ 1000000) : Calls Try.prog 24 #[.slice A xs.length c] w fun e w' => ∃ v, e = .returned v ∧ (Kd.int .u8).R 5 w' w.heap.size (fun _ => True) v xs ∧ Below w.heap.size w w' := by
  rcases A with _ | ad
  · have h0 : xs = [] := by
      rcases Nat.eq_zero_or_pos xs.length with h0 | h0
      · exact List.eq_nil_of_length_eq_zero h0
      · obtain ⟨ad, h, _⟩ := hA.2.2 h0
        cases h
    subst h0
    go_enter Try.func24, Try.ntmps24
    go_wp2_with (fail)
    go_ret
    exact ⟨_, rfl, Kd.R_nil _ _ _ _ _, Below.refl _ _⟩
  · have bX : Below w.heap.size w (w.alloc (.cells #[] 5)) := (Below.refl _ w).alloc (Nat.le_refl _) _
    have R0 : (Kd.int .u8).R 5 (w.alloc (.cells #[] 5)) w.heap.size (fun _ => True) (.slice (some ⟨w.heap.size, 0, none⟩) 0 0) [] := R_empty _ 5 w _ (Nat.le_refl _) _ trivial
    obtain ⟨v1, w1, hrun, R1, hg, hat⟩ := run_app_row (P := Try.prog) (t := 22) (e := 5) (ty := 22) (c := c) .u8 Try.underlying22 infoB (by decide) R0 (Kd.C_below hA bX) (fun _ _ => trivial) (by simp) (by simp; omega)
    have b1 : Below w.heap.size w w1 := bX.grown hg bX.size (fun k hk => by simp [Value.ownBlock] at hk; omega)
    have HR := Lib.hid (And.intro R1 b1)
    clear R0 R1 b1 bX hg hat hA
    generalize xs.length = m at *
    go_enter Try.func24, Try.ntmps24
    go_wp2_with (at_builtin; refine run_app (.tmp 5) (.tmp 6) 22 rfl rfl hrun ?_)
    go_ret
    exact ⟨_, rfl, HR.out.1, HR.out.2⟩

set_option maxRecDepth 100000 in
set_option maxHeartbeats 2000000 in
theorem copy_call (w : World) (g : Nat) (vh : Value) (xs : List Int) (n fed : Int) (base : Nat) (hg : Scn w g vh n fed) (hR : (Kd.int .u8).R 5 w base (fun k => k ≠ g) vh xs) (hl : xs.length ≤ 255) :
    Calls Try.prog 15 #[.pointer (some ⟨g, 0, none⟩)] w fun e w' => ∃ g' v', e = .returned (.pointer (some ⟨g', 0, none⟩)) ∧ w.heap.size ≤ g' ∧ Scn w' g' v' n fed ∧ (Kd.int .u8).R 5 w' w.heap.size (fun k => k ≠ g') v' xs ∧ Below w.heap.size w w' := by
  obtain ⟨A, c, rfl, hc, hC⟩ := Kd.R_reads hR
  go_enter Try.func15, Try.ntmps15
  go_wp2_with (fail)
  refine wp_region_hoist [(0, true), (1, true), (2, true), (3, true), (4, true), (6, true), (7, true), (8, true), (9, true), (10, true), (12, true), (13, true), (14, true), (15, true), (5, false), (11, true), (16, true), (17, false), (18, true)] (fun w' => Scn w' g (.slice A xs.length c) n fed) (by kernel_rfl) (by kernel_rfl) ?_
  iterate 14 (apply wpH_read _ rfl rfl; · (intro w' hw'; have c0 := hw'.c0; have c1 := hw'.c1; have c2 := hw'.c2; clear hw'; go_simp; exact ⟨rfl, rfl⟩))
  refine wpH_do rfl hg rfl (fun K hK => ?_)
  go_simp
  refine callsIn_wide.2 ((clone_call w.drew A c xs hC (by omega)).mono ?_)
  rintro e w1 ⟨v, rfl, R1, b1⟩
  refine hK _ _ ?_
  clear hK K
  obtain ⟨A1, c1, rfl⟩ := Kd.R_slice R1
  have g1 : Scn w1 g (.slice A xs.length c) n fed := (b1.block g hg.lt).trans hg
  iterate 2 (apply wpH_read _ rfl rfl; · (intro w' hw'; go_simp; exact ⟨rfl, rfl⟩))
  refine wpH_do rfl g1 rfl (fun K hK => ?_)
  go_simp
  refine hK _ _ ?_
  clear hK K
  have b2 : Below w.heap.size w (w1.alloc (.cells #[.slice A1 xs.length c1, .int .i64 n, .int .u64 fed] 51)) := ((Below.refl _ w).drew.trans b1).alloc b1.size _
  have g2 : Scn (w1.alloc (.cells #[.slice A1 xs.length c1, .int .i64 n, .int .u64 fed] 51)) g (.slice A xs.length c) n fed := (((Below.refl _ w1).alloc (Nat.le_refl _) _).block g g1.lt).trans g1
  have n2 : Scn (w1.alloc (.cells #[.slice A1 xs.length c1, .int .i64 n, .int .u64 fed] 51)) w1.heap.size (.slice A1 xs.length c1) n fed := World.alloc_heap_new _ _
  have R2 : (Kd.int .u8).R 5 (w1.alloc (.cells #[.slice A1 xs.length c1, .int .i64 n, .int .u64 fed] 51)) w.heap.size (fun k => k ≠ w1.heap.size) (.slice A1 xs.length c1) xs := by
    have h1 := Kd.R_lt R1
    have h2 : (Kd.int .u8).R 5 w1 w.heap.size (fun k => k ≠ w1.heap.size) (.slice A1 xs.length c1) xs := Kd.R_mono (Kd.R_bound R1) (fun k hk => by have := hk.2.2.1; omega)
    exact R_own_same h2 (fun k hk => ((Below.refl _ w1).alloc (Nat.le_refl _) _).block k (h1 k hk))
  have H2 := Lib.hid (And.intro b2 (And.intro n2 R2))
  clear b2 n2 R2
  apply wpH_read _ rfl rfl
  · intro w' hw'; go_simp; exact ⟨rfl, rfl⟩
  refine wpH_end g2 ?_
  go_simp
  go_wp2_with (fail)
  go_ret
  exact ⟨_, _, rfl, b1.size, H2.out.2.1, H2.out.2.2, H2.out.1⟩
end Go.Proofs.Ytmkhhnhoodneeaa
