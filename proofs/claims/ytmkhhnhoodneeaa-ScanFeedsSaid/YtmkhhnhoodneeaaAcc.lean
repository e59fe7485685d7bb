/- scan: Reset, Held, Fed, Open. -/
import Derived.Test.YtmkhhnhoodneeaaScn
set_option linter.unusedVariables false
set_option linter.unusedSimpArgs false
namespace Go.Proofs.Ytmkhhnhoodneeaa
open Go.RowKit Go.Proofs.YtmkhhnhoodneeaaW.PrintWords Go.Proofs.YtmkhhnhoodneeaaW.PrintMore
attribute [local go_sem] Oper.semAt_some

theorem reset_nil (w : World) : Calls Try.prog 8 #[.pointer none] w fun e w' => (∃ v, e = .returned v) ∧ w' = w := by
  go_enter Try.func8, Try.ntmps8
  go_wp2_with (fail)
  refine bodyPost_end (results_none rfl _ _ _) rfl ⟨⟨_, rfl⟩, rfl⟩
theorem held_nil (w : World) : Calls Try.prog 12 #[.pointer none] w fun e w' => e = .returned (.int .i64 0) ∧ w' = w := by
  go_enter Try.func12, Try.ntmps12
  go_wp2_with (fail)
  go_ret
  exact ⟨rfl, rfl⟩
theorem fed_nil (w : World) : Calls Try.prog 13 #[.pointer none] w fun e w' => e = .returned (.int .u64 0) ∧ w' = w := by
  go_enter Try.func13, Try.ntmps13
  go_wp2_with (fail)
  go_ret
  exact ⟨rfl, rfl⟩
theorem open_nil (w : World) : Calls Try.prog 14 #[.pointer none] w fun e w' => e = .returned (.bool false) ∧ w' = w := by
  go_enter Try.func14, Try.ntmps14
  go_wp2_with (fail)
  go_ret
  exact ⟨rfl, rfl⟩
theorem copy_nil (w : World) : Calls Try.prog 15 #[.pointer none] w fun e w' => e = .returned (.pointer none) ∧ w' = w := by
  go_enter Try.func15, Try.ntmps15
  go_wp2_with (fail)
  go_ret
  exact ⟨rfl, rfl⟩
theorem held_call (w : World) (g : Nat) (A : Option Addr) (m c : Nat) (n fed : Int) (hg : Scn w g (.slice A m c) n fed) : Calls Try.prog 12 #[.pointer (some ⟨g, 0, none⟩)] w fun e w' => e = .returned (.int .i64 m) ∧ w' = w := by
  have c0 := hg.c0
  go_enter Try.func12, Try.ntmps12
  go_wp2_with (fail)
  go_ret
  exact ⟨rfl, rfl⟩
theorem fed_call (w : World) (g : Nat) (vh : Value) (n fed : Int) (hg : Scn w g vh n fed) : Calls Try.prog 13 #[.pointer (some ⟨g, 0, none⟩)] w fun e w' => e = .returned (.int .u64 fed) ∧ w' = w := by
  have c0 := hg.c2
  go_enter Try.func13, Try.ntmps13
  go_wp2_with (fail)
  go_ret
  exact ⟨rfl, rfl⟩
theorem open_call (w : World) (g : Nat) (vh : Value) (n fed : Int) (hg : Scn w g vh n fed) : Calls Try.prog 14 #[.pointer (some ⟨g, 0, none⟩)] w fun e w' => e = .returned (.bool (decide (0 < n))) ∧ w' = w := by
  have c0 := hg.c1
  go_enter Try.func14, Try.ntmps14
  go_wp2_with (fail)
  go_ret
  exact ⟨rfl, rfl⟩
theorem new_call (w : World) : Calls Try.prog 16 #[] w fun e w' => e = .returned (.pointer (some ⟨w.heap.size, 0, none⟩)) ∧ w' = w.alloc (.cells #[.slice none 0 0, .int .i64 0, .int .u64 0] 51) := by
  go_enter Try.func16, Try.ntmps16
  go_wp2_with (fail)
  go_ret
  exact ⟨rfl, rfl⟩
theorem each_call (w : World) (v : Value) (p : Option Addr) (hv : v = .pointer p) (u : Value) (A : Option Addr) (n c : Nat) (hu : u = .slice A n c) : Calls Try.prog 9 #[v, u] w fun e w' => e = .returned (.func (.func 20) #[] #[.pointer (some ⟨w.heap.size, 0, none⟩), .pointer (some ⟨w.heap.size + 1, 0, none⟩)]) ∧ (w.alloc (.cells #[v] 23)).alloc (.cells #[u] 22) = w' := by
  subst hv hu
  go_enter Try.func9, Try.ntmps9
  go_wp2_with (fail)
  go_ret
  exact ⟨by simp, rfl⟩
theorem reset_call (w : World) (g : Nat) (vh : Value) (n fed : Int) (hg : Scn w g vh n fed) : Calls Try.prog 8 #[.pointer (some ⟨g, 0, none⟩)] w fun e w' => (∃ v, e = .returned v) ∧ Scn w' g (.slice none 0 0) 0 fed ∧ Stab (fun b => b = g) w.heap.size w w' := by
  have c0 := hg.c0
  have c1 := hg.c1
  have f0 := hg.fz 0
  have f1 := hg.fz 1
  have h1 := (hg.s0 (.slice none 0 0)).s1 0
  have c2 := (hg.s0 (.slice none 0 0)).c1
  have f2 := (hg.s0 (.slice none 0 0)).fz 1
  have s1 : Stab (fun b => b = g) w.heap.size w ((w.setCell ⟨g, 0, none⟩ (.slice none 0 0)).setCell ⟨g, 1, none⟩ (.int .i64 0)) := (Stab.setT (T := fun b => b = g) (p := ⟨g, 0, none⟩) w rfl _).trans (Stab.setT (T := fun b => b = g) (p := ⟨g, 1, none⟩) _ rfl _) (fun b hb => .inl hb)
  have HF := Lib.hid (And.intro h1 s1)
  clear h1 s1
  go_enter Try.func8, Try.ntmps8
  go_wp2_with (fail)
  refine bodyPost_end (results_none rfl _ _ _) rfl ⟨⟨_, rfl⟩, HF.out.1, HF.out.2⟩
end Go.Proofs.Ytmkhhnhoodneeaa
