/- cobs.block and the iterator of cobs.Blocks. -/
import Derived.Test.YtmpampbpkcfdoaaPlain2
import Derived.Test.YtmpampbpkcfdoaaProg
import Derived.Outline
import Derived.Lib.Hide
import Derived.WalkMore
import Derived.LoopTactic
set_option linter.unusedVariables false
set_option linter.unusedSimpArgs false
namespace Go.Proofs.Ytmpampbpkcfdoaa
open Go.RowKit Go.Proofs.YtmpampbpkcfdoaaW.PrintWords Go.Proofs.YtmpampbpkcfdoaaW.PrintMore
attribute [local go_sem] Oper.semAt_some
attribute [local go_sem] max2_int min2_int max_two min_two max_three min_three max_four min_four

theorem rd_get {l : List Int} {k : Nat} (h : k < l.length) : rd l (k : Int) = l[k] := by simp [rd, List.getD_eq_getElem?_getD, List.getElem?_eq_getElem h]

/-- How many bytes other than 0 a list begins with. -/
def lead : List Int → Nat
  | [] => 0
  | c :: r => if c = 0 then 0 else lead r + 1
theorem lead_at : ∀ (l : List Int) (i : Nat) (h : i < l.length), (∀ j, j < i → rd l (j : Int) ≠ 0) → rd l (i : Int) = 0 → lead l = i
  | [], i, h, _, _ => by simp at h
  | c :: r, 0, _, _, h0 => by
    have : c = 0 := h0
    simp [lead, this]
  | c :: r, i + 1, h, hn, h0 => by
    have hc : c ≠ 0 := hn 0 (by omega)
    have := lead_at r i (by simpa using h) (fun j hj => by have := hn (j + 1) (by omega); simpa [rd] using this) (by simpa [rd] using h0)
    simp [lead, hc, this]
theorem lead_ge : ∀ (l : List Int) (m : Nat), m ≤ l.length → (∀ j, j < m → rd l (j : Int) ≠ 0) → m ≤ lead l
  | _, 0, _, _ => Nat.zero_le _
  | [], m + 1, h, _ => by simp at h
  | c :: r, m + 1, h, hn => by
    have hc : c ≠ 0 := hn 0 (by omega)
    have := lead_ge r m (by simpa using h) (fun j hj => by have := hn (j + 1) (by omega); simpa [rd] using this)
    simp [lead, hc]; exact this
theorem lead_le : ∀ (l : List Int), lead l ≤ l.length
  | [] => Nat.le_refl _
  | c :: r => by
    have := lead_le r
    unfold lead; split
    · simp
    · simp; exact this
/-- A block: its bytes, all that it takes, and whether another one follows. -/
def blk (l : List Int) : Nat × Nat × Bool :=
  if lead l < 254 ∧ lead l < l.length then (lead l, lead l + 1, true) else if 254 ≤ l.length then (254, 254, decide (254 < l.length)) else (l.length, l.length, false)
theorem blk_le (l : List Int) : (blk l).1 ≤ l.length ∧ (blk l).1 ≤ (blk l).2.1 ∧ (blk l).2.1 ≤ l.length ∧ (blk l).1 ≤ 254 ∧ ((blk l).2.2 = true → 0 < (blk l).2.1) := by
  unfold blk; split
  · simp; omega
  · split
    · simp; omega
    · simp; omega

set_option maxRecDepth 100000 in
set_option maxHeartbeats 2000000 in
theorem block_call (w : World) (A : Option Addr) (c : Nat) (l : List Int) (hr : Kd.C (Kd.int .u8) w A l.length l) (hc : l.length ≤ c) (hlen : l.length ≤ 1000000) :
    Calls Try.prog 19 #[.slice A l.length c] w fun e w' => e = .returned (.tuple #[.int .i64 ((blk l).1 : Int), .int .i64 ((blk l).2.1 : Int), .bool (blk l).2.2]) ∧ w = w' := by
  have hm : (if (254 : Int) < (l.length : Int) then (254 : Int) else (l.length : Int)) = ((min l.length 254 : Nat) : Int) := by split <;> omega
  have hml : (min l.length 254 ≤ l.length) = True := eq_true (by omega)
  have hmc : (min l.length 254 ≤ c) = True := eq_true (by omega)
  obtain ⟨m, hmm⟩ : ∃ m, min l.length 254 = m := ⟨_, rfl⟩
  have HM := Lib.hid hmm
  rw [hmm] at hm hml hmc
  clear hmm
  go_enter Try.func19, Try.ntmps19
  go_wp2
  go_loop [13] (fun t => ∃ i : Nat, t = .int .i64 (i : Int) ∧ i ≤ m ∧ Hid (∀ j, j < i → rd l (j : Int) ≠ 0)) (fun t => m - (intOf t).toNat)
  case atStart => exact ⟨0, rfl, Nat.zero_le _, Lib.hid (fun j h => absurd h (by omega))⟩
  case round =>
    obtain ⟨i, rfl, him, HN⟩ := hrel
    by_cases hlt : i < m
    · have hil : i < l.length := by have := HM.out; omega
      obtain ⟨ad, rfl, hcell⟩ := Kd.at_int hr (i : Int) (by omega) (by omega)
      rw [Int.toNat_natCast] at hcell
      by_cases hz : rd l (i : Int) = 0
      · have hb : blk l = (i, i + 1, true) := by
          have := HM.out
          have h2 := lead_at l i hil HN.out hz
          unfold blk; rw [if_pos (by omega), h2]
        have HBK := Lib.hid hb
        rw [hz] at hcell
        clear hz hb
        go_wp2
        refine bodyPost_ret (v := .tuple #[.int .i64 (i : Int), .int .i64 ((i : Int) + 1), .bool true]) (by simp [results, Try.results19, go_sem]) rfl ⟨?_, rfl⟩
        rw [HBK.out]
        first | rfl | simp
      · have hzb : (rd l (i : Int) == 0) = false := by simpa using hz
        have HZ := Lib.hid hz
        clear hz
        generalize hx : rd l (i : Int) = x at *
        have HX := Lib.hid hx
        clear hx
        go_wp2
        go_round
        case rel => exact ⟨i + 1, by first | rfl | simp, hlt, Lib.hid (fun j hj => by
          rcases Nat.lt_or_ge j i with h | h
          · exact HN.out j h
          · rw [show j = i by omega, HX.out]; exact HZ.out)⟩
        case measure => simp [intOf]; omega
    · have hi : i = m := by omega
      subst hi
      have hge := lead_ge l i (by have := HM.out; omega) HN.out
      by_cases h254 : 254 ≤ l.length
      · have hb : blk l = (254, 254, decide (254 < l.length)) := by
          have := HM.out
          unfold blk; rw [if_neg (by omega), if_pos h254]
        have HBK := Lib.hid hb
        have h254t : ((254 : Int) ≤ (l.length : Int)) = True := eq_true (by omega)
        have h254n : (254 ≤ l.length) = True := eq_true h254
        clear hb hge
        go_wp2
        refine bodyPost_ret (v := .tuple #[.int .i64 254, .int .i64 254, .bool (decide (254 < l.length))]) (by simp [results, Try.results19, go_sem]; omega) rfl ⟨?_, rfl⟩
        rw [HBK.out]
        first | rfl | simp
      · have hb : blk l = (l.length, l.length, false) := by
          have := HM.out
          have := lead_le l
          unfold blk; rw [if_neg (by omega), if_neg h254]
        have HBK := Lib.hid hb
        have h254n : (254 ≤ l.length) = False := eq_false h254
        clear hb hge
        go_wp2
        refine bodyPost_ret (v := .tuple #[.int .i64 (l.length : Int), .int .i64 (l.length : Int), .bool false]) (by simp [results, Try.results19, go_sem]) rfl ⟨?_, rfl⟩
        rw [HBK.out]
end Go.Proofs.Ytmpampbpkcfdoaa
