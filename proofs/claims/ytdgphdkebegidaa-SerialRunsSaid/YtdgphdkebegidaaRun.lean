/- serial.Run: its iterator's word. -/
import Derived.Test.YtdgphdkebegidaaSeq
set_option linter.unusedVariables false
set_option linter.unusedSimpArgs false
namespace Go.Proofs.Ytdgphdkebegidaa
open Go.RowKit Go.Proofs.YtdgphdkebegidaaW.PrintWords
attribute [local go_sem] Oper.semAt_some

/-- The k-th number from one on. -/
def nth (a : Int) (k : Nat) : Int := (a + (k : Int) % 4294967296) % 4294967296
theorem add_call (a b : Int) (w : World) : Calls Try.prog 11 #[.int .u32 a, .int .i64 b] w fun e w' => e = .returned (.int .u32 ((a + b % 4294967296) % 4294967296)) ∧ w = w' := by
  go_enter Try.func11, Try.ntmps11
  go_wp2
  go_ret
  exact ⟨by first | rfl | simp, rfl⟩

def RunQ (a : Int) (k : Nat) (vs : Array Value) (T : Nat → Prop) (B : Nat) (W : World) : Prop := vs = #[.int .u32 (nth a k)]

set_option maxRecDepth 100000 in
set_option maxHeartbeats 2000000 in
theorem run1 (w : World) (h Bn Bf : Nat) (a n : Int) (hn : n ≤ 1000000) (hN : w.cell? ⟨Bn, 0, none⟩ = some (.int .i64 n)) (hF : w.cell? ⟨Bf, 0, none⟩ = some (.int .u32 a)) :
    Iter Try.prog 23 #[.pointer (some ⟨Bn, 0, none⟩), .pointer (some ⟨Bf, 0, none⟩)] n.toNat NoT (fun b => b < h ∨ b = Bn ∨ b = Bf) (fun _ => False) (RunQ a) (fun _ _ _ _ => True) w := by
  intro l' J Jx W hW hY h0
  have hNW : W.cell? ⟨Bn, 0, none⟩ = some (.int .i64 n) := hW.cell hN (.inl (.inr (.inl rfl)))
  have hFW : W.cell? ⟨Bf, 0, none⟩ = some (.int .u32 a) := hW.cell hF (.inl (.inr (.inr rfl)))
  have HY := Lib.hid hY
  have HJ := Lib.hid h0
  have HW := Lib.hid hW
  clear hY h0 hN hF hW
  show Calls Try.prog 23 #[.func (.yield l') #[] #[], .pointer (some ⟨Bn, 0, none⟩), .pointer (some ⟨Bf, 0, none⟩)] W _
  go_enter Try.func23, Try.ntmps23
  go_wp2
  go_loopw [4] (fun i wr => ∃ k : Nat, i = .int .i64 (k : Int) ∧ k ≤ n.toNat ∧ J k (fun _ => False) wr ∧ Keep (fun b => b < h ∨ b = Bn ∨ b = Bf) W wr)
    (fun i _ => n.toNat - (intOf i).toNat)
  case atStart => exact ⟨0, rfl, Nat.zero_le _, HJ.out, Keep.refl _ _⟩
  case round =>
    obtain ⟨k, rfl, hkl, hJ, hk⟩ := hrel
    have cN := hk.cell hNW (.inr (.inl rfl))
    have cF := hk.cell hFW (.inr (.inr rfl))
    clear hNW hFW
    by_cases hlt : k < n.toNat
    · have hlt2 : ((k : Int) < n) = True := eq_true (by omega)
      have e : wrap64 ((k : Int) + 1) = ((k + 1 : Nat) : Int) := by unfold wrap64; omega
      have HE := Lib.hid e
      clear e
      obtain ⟨fn, tmps, assign, body, hy, hR⟩ := HY.out k (fun _ => False) (fun _ => False) wr wr #[.int .u32 (nth a k)] hlt hJ noT (fun _ h => h.elim) (fun _ h => h.elim) (Stab.refl _ _ _) rfl
      have HR := Lib.hid hR
      clear hR
      have hnth : (a + (k : Int) % 4294967296) % 4294967296 = nth a k := rfl
      generalize nth a k = x at *
      have hadd : Calls Try.prog 11 #[.int .u32 a, .int .i64 (k : Int)] wr fun e w' => e = .returned (.int .u32 x) ∧ wr = w' := by
        have := add_call a (k : Int) wr
        rwa [hnth] at this
      clear hnth
      go_upto_region 3 with (fail)
      refine (wpIn_wide (n := 5)).1 ?_
      gi_wp2_with (gi_at_call 11; refine (callsIn_wide.2 hadd).mono ?_; rintro e w' ⟨rfl, rfl⟩)
      refine (HR.out _).mono ?_
      rintro e W3 (⟨rfl, hJ3, hk3⟩ | ⟨rfl, hJ3, hk3⟩)
      · have HK3 := Lib.hid hk3
        clear hk3 hy hadd
        gi_wp2
        go_wp2
        go_roundw
        case rel => exact ⟨k + 1, by first | rfl | simp, hlt, hJ3, hk.trans (HK3.out.mono (fun b h => .inl h))⟩
        case measure => simp [intOf]; omega
      · clear hk3 hy hadd
        gi_wp2
        go_wp2
        refine bodyPost_ret (results_none rfl _ _ _) rfl ?_
        exact ⟨⟨_, rfl⟩, _, _, W3, k, noT, fun _ h => .inl h, Stab.refl _ _ _, .inr ⟨hlt, hJ3, trivial⟩⟩
    · have hlt2 : ((k : Int) < n) = False := eq_false (by omega)
      have HE := Lib.hid (show k = n.toNat by omega)
      go_wp2
      go_end0
      exact ⟨⟨_, rfl⟩, _, _, wr, k, noT, fun _ h => .inl h, Stab.refl _ _ _, .inl ⟨HE.out, hJ, trivial⟩⟩

theorem run_call (a n : Int) (w : World) : Calls Try.prog 20 #[.int .u32 a, .int .i64 n] w fun e w' => e = .returned (.func (.func 23) #[] #[.pointer (some ⟨w.heap.size + 1, 0, none⟩), .pointer (some ⟨w.heap.size, 0, none⟩)]) ∧ (w.alloc (.cells #[.int .u32 a] 22)).alloc (.cells #[.int .i64 n] 3) = w' := by
  go_enter Try.func20, Try.ntmps20
  go_wp2
  go_ret
  exact ⟨rfl, rfl⟩
end Go.Proofs.Ytdgphdkebegidaa
