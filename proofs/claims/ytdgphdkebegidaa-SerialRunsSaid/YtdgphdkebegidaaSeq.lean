/- slices.Values at []uint32, and serial.Run: their iterators' words. -/
import Derived.Test.YtdgphdkebegidaaPlain2
import Derived.Test.YtdgphdkebegidaaProg
import Derived.Outline
import Derived.Lib.Hide
import Derived.WalkMore
import Derived.LoopTactic
set_option linter.unusedVariables false
set_option linter.unusedSimpArgs false
namespace Go.Proofs.Ytdgphdkebegidaa
open Go.RowKit Go.Proofs.YtdgphdkebegidaaW.PrintWords
attribute [local go_sem] Oper.semAt_some

theorem rd_get {l : List Int} {k : Nat} (h : k < l.length) : rd l (k : Int) = l[k] := by simp [rd, List.getD_eq_getElem?_getD, List.getElem?_eq_getElem h]

def ValQ (l : List Int) (k : Nat) (vs : Array Value) (T : Nat → Prop) (B : Nat) (W : World) : Prop := ∃ x, l[k]? = some x ∧ vs = #[.int .u32 x]

set_option maxRecDepth 100000 in
set_option maxHeartbeats 2000000 in
theorem values1 (w0 w : World) (Bb : Nat) (A : Option Addr) (c : Nat) (l : List Int) (hB : w.cell? ⟨Bb, 0, none⟩ = some (.slice A l.length c)) (hr : Kd.C (Kd.int .u32) w0 A l.length l) (hlen : l.length ≤ 1000000) (hb : Below w0.heap.size w0 w) :
    Iter Try.prog 25 #[.pointer (some ⟨Bb, 0, none⟩)] l.length NoT (fun b => b < w0.heap.size ∨ b = Bb) (fun _ => False) (ValQ l) (fun _ _ _ _ => True) w := by
  intro l' J Jx W hW hY h0
  have hBW : W.cell? ⟨Bb, 0, none⟩ = some (.slice A l.length c) := hW.cell hB (.inl (.inr rfl))
  have HY := Lib.hid hY
  have HJ := Lib.hid h0
  clear hY h0 hB
  show Calls Try.prog 25 #[.func (.yield l') #[] #[], .pointer (some ⟨Bb, 0, none⟩)] W _
  go_enter Try.func25, Try.ntmps25
  go_wp2
  go_loopw [7] (fun i wr => ∃ k : Nat, i = .int .i64 (k : Int) ∧ k ≤ l.length ∧ J k (fun _ => False) wr ∧ Keep (fun b => b < w0.heap.size ∨ b = Bb) W wr)
    (fun i _ => l.length - (intOf i).toNat)
  case atStart => exact ⟨0, rfl, Nat.zero_le _, HJ.out, Keep.refl _ _⟩
  case round =>
    obtain ⟨k, rfl, hkl, hJ, hk⟩ := hrel
    have hbr : Below w0.heap.size w0 wr := hb.trans (((hW.mono (fun b h => .inl h)).trans hk).mono (fun b h => .inl h) |>.to_below hb.size)
    have HBB := Lib.hid hbr
    clear hBW
    by_cases hlt : k < l.length
    · obtain ⟨ad, rfl, hcell⟩ := Kd.at_int (Kd.C_below hr hbr) (k : Int) (by omega) (by omega)
      rw [Int.toNat_natCast] at hcell
      obtain ⟨fn, tmps, assign, body, hy, hR⟩ := HY.out k (fun _ => False) (fun _ => False) wr wr #[.int .u32 (rd l (k : Int))] hlt hJ noT (fun _ h => h.elim) (fun _ h => h.elim) (Stab.refl _ _ _)
        ⟨rd l (k : Int), by rw [rd_get hlt, List.getElem?_eq_getElem hlt], rfl⟩
      have HR := Lib.hid hR
      clear hR hbr
      generalize rd l (k : Int) = x at *
      go_upto_region 3 with (fail)
      refine (wpIn_wide (n := 5)).1 ?_
      gi_wp2
      refine (HR.out _).mono ?_
      rintro e W3 (⟨rfl, hJ3, hk3⟩ | ⟨rfl, hJ3, hk3⟩)
      · have HK3 := Lib.hid hk3
        clear hk3 hy
        gi_wp2
        go_wp2
        go_roundw
        case rel => exact ⟨k + 1, by go_num, hlt, hJ3, hk.trans (HK3.out.mono (fun b h => .inl h))⟩
        case measure => simp [intOf]; omega
      · clear hk3 hy
        gi_wp2
        go_wp2
        refine bodyPost_ret (results_none rfl _ _ _) rfl ?_
        exact ⟨⟨_, rfl⟩, _, _, W3, k, noT, fun _ h => .inl h, Stab.refl _ _ _, .inr ⟨hlt, hJ3, trivial⟩⟩
    · have e : k = l.length := by omega
      have HE := Lib.hid e
      clear e hbr
      go_wp2
      go_end0
      exact ⟨⟨_, rfl⟩, _, _, wr, k, noT, fun _ h => .inl h, Stab.refl _ _ _, .inl ⟨HE.out, hJ, trivial⟩⟩

theorem values_call (A : Option Addr) (n c : Nat) (w : World) : Calls Try.prog 24 #[.slice A n c] w fun e w' => e = .returned (.func (.func 25) #[] #[.pointer (some ⟨w.heap.size, 0, none⟩)]) ∧ w.alloc (.cells #[.slice A n c] 29) = w' := by
  go_enter Try.func24, Try.ntmps24
  go_wp2
  go_ret
  exact ⟨rfl, rfl⟩

/-- After. -/
def aft (a b : Int) : Bool := decide (0 < wrap64 (wrap32 ((a - b) % 4294967296)))
theorem after_call (a b : Int) (w : World) : Calls Try.prog 13 #[.int .u32 a, .int .u32 b] w fun e w' => e = .returned (.bool (aft a b)) ∧ w = w' := by
  go_enter Try.func13, Try.ntmps13
  go_wp2
  go_ret
  exact ⟨rfl, rfl⟩
theorem before_call (a b : Int) (w : World) : Calls Try.prog 22 #[.int .u32 a, .int .u32 b] w fun e w' => e = .returned (.bool (aft b a)) ∧ w = w' := by
  go_enter Try.func22, Try.ntmps22
  go_wp2_with (go_at_call 13; refine (after_call _ _ _).mono ?_; rintro e w' ⟨rfl, rfl⟩)
  go_ret
  exact ⟨rfl, rfl⟩
end Go.Proofs.Ytdgphdkebegidaa
