/- Part 9 of the proof of TopWire: Crc, Blk, Blks, Sea. -/
import Derived.Deep.RegionHeld3
import Derived.Deep.RegionLaw
import Derived.Lib.Hide
import Derived.LoopTactic
import Derived.Outline
import Derived.RegionTactic
import Derived.Test.YtgdlpgakhhebeaaGreatDoorMg08
import Derived.Test.YtgdlpgakhhebeaaGreatDoorProg
import Derived.WalkMore
section
set_option linter.unusedVariables false
set_option linter.unusedSimpArgs false
namespace Go.Proofs.YtgdlpgakhhebeaaGreatDoor
open Go.RowKit Go.Proofs.YtgdlpgakhhebeaaGreatDoorW.PrintWords Go.Proofs.YtgdlpgakhhebeaaGreatDoorW.PrintMore
attribute [local go_sem] Oper.semAt_some
attribute [local go_sem] max2_int min2_int max_two min_two max_three min_three max_four min_four

/-- A table's words lie there. -/
def Tbl (W : World) (k off : Nat) (T : Nat → Int) : Prop := ∀ j, j < 1024 → W.cell? ⟨k, off + j, none⟩ = some (.int .u32 (T j))

def lenV : Value → Nat
  | .slice _ n _ => n
  | _ => 0
theorem u32_bits (op : BinOp) (x y : Int) : 0 ≤ bits op .u32 x y ∧ bits op .u32 x y < 4294967296 := by
  unfold bits
  split <;> (simp [IntKind.wrap, IntKind.signed, IntKind.bits]; omega)
theorem u8_bits (op : BinOp) (x y : Int) : 0 ≤ bits op .u8 x y ∧ bits op .u8 x y < 256 := by
  unfold bits
  split <;> (simp [IntKind.wrap, IntKind.signed, IntKind.bits]; omega)
theorem wraps_u32' (n : Int) (h₀ : 0 ≤ n) (h₁ : n < 2 ^ 32) : IntKind.u32.wrap n = n := by simp [IntKind.wrap, IntKind.signed, IntKind.bits]; omega
theorem mask_u32 (x : Int) (h : 0 ≤ x ∧ x < 4294967296) : bits .and .u32 x 255 = x % 256 := bits_mask .u32 32 (by decide) wraps_u32' 8 (by decide) x h.1 h.2
theorem mask0 (S : Int) (h : 0 ≤ S ∧ S < 4294967296) : bits .and .u32 S 255 = ((S % 256).toNat : Int) ∧ (S % 256).toNat < 256 := ⟨by rw [mask_u32 S h]; omega, by omega⟩
theorem mask1 (S : Int) (h : 0 ≤ S ∧ S < 4294967296) : bits .and .u32 (S / 256) 255 = ((S / 256 % 256).toNat : Int) ∧ (S / 256 % 256).toNat < 256 := mask0 _ (by omega)
theorem mask2 (S : Int) (h : 0 ≤ S ∧ S < 4294967296) : bits .and .u32 (S / 65536) 255 = ((S / 65536 % 256).toNat : Int) ∧ (S / 65536 % 256).toNat < 256 := mask0 _ (by omega)
theorem mask3 (S : Int) (h : 0 ≤ S ∧ S < 4294967296) : S / 16777216 = ((S / 16777216).toNat : Int) ∧ (S / 16777216).toNat < 256 := ⟨by omega, by omega⟩
/-- Four bytes are put to a state; what the table makes of it; one byte. -/
def crcMix (s b0 b1 b2 b3 : Int) : Int := bits .xor .u32 s (bits .or .u32 (bits .or .u32 (bits .or .u32 (b0 % 4294967296) (b1 % 4294967296 * 256 % 4294967296)) (b2 % 4294967296 * 65536 % 4294967296)) (b3 % 4294967296 * 16777216 % 4294967296))
def crcFour (T : Nat → Int) (S : Int) : Int := bits .xor .u32 (bits .xor .u32 (bits .xor .u32 (T (768 + (S % 256).toNat)) (T (512 + (S / 256 % 256).toNat))) (T (256 + (S / 65536 % 256).toNat))) (T (S / 16777216).toNat)
def crcOne (T : Nat → Int) (S c : Int) : Int := bits .xor .u32 (S / 256) (T (bits .xor .u8 (S % 256) c).toNat)
def crcAdd (T : Nat → Int) : Int → List Int → Int
  | s, b0 :: b1 :: b2 :: b3 :: r => crcAdd T (crcFour T (crcMix s b0 b1 b2 b3)) r
  | s, r => r.foldl (crcOne T) s
theorem four_or (T : Nat → Int) : ∀ l : List Int, (∃ b0 b1 b2 b3 r, l = b0 :: b1 :: b2 :: b3 :: r) ∨ (l.length < 4 ∧ ∀ s, crcAdd T s l = l.foldl (crcOne T) s)
  | [] => .inr ⟨by simp, fun s => by simp [crcAdd]⟩
  | [_] => .inr ⟨by simp, fun s => by simp [crcAdd]⟩
  | [_, _] => .inr ⟨by simp, fun s => by simp [crcAdd]⟩
  | [_, _, _] => .inr ⟨by simp, fun s => by simp [crcAdd]⟩
  | b0 :: b1 :: b2 :: b3 :: r => .inl ⟨b0, b1, b2, b3, r, rfl⟩
theorem Below_cell {w W : World} {p : Addr} {v : Value} (h : Below w.heap.size w W) (hc : w.cell? p = some v) : W.cell? p = some v := by
  have := (Keep.of_below h (R := fun _ => True)).cell hc trivial
  exact this
theorem crcBegin_call (w : World) (p : Addr) : Calls Tryz.prog 215 #[.pointer (some p)] w fun e w' => e = .returned (.int .u32 4294967295) ∧ w = w' := by
  go_enter Tryz.func215, Tryz.ntmps215
  go_wp2
  go_ret
  exact ⟨rfl, rfl⟩
theorem crcBytes_call (w : World) (s : Int) : Calls Tryz.prog 158 #[.int .u32 s] w fun e w' => e = .returned (.agg #[.int .u8 (s % 256), .int .u8 (s / 256 % 256), .int .u8 (s / 65536 % 256), .int .u8 (s / 16777216 % 256)]) ∧ Below w.heap.size w w' := by
  go_enter Tryz.func158, Tryz.ntmps158
  go_wp2
  refine bodyPost_ret (v := .agg #[.int .u8 (s % 256), .int .u8 (s / 256 % 256), .int .u8 (s / 65536 % 256), .int .u8 (s / 16777216 % 256)]) (by simp [results, Tryz.results158, go_sem]) rfl ⟨rfl, ?_⟩
  exact (Below.refl _ w).alloc (Nat.le_refl _) _

set_option maxRecDepth 100000 in
set_option maxHeartbeats 2000000 in
theorem crcAdd_call (w : World) (k off : Nat) (T : Nat → Int) (hT : Tbl w k off T) (s : Int) (hs : 0 ≤ s ∧ s < 4294967296) (A : Option Addr) (c : Nat) (l : List Int) (hr : Kd.C (Kd.int .u8) w A l.length l) (hc : l.length ≤ c) (hlen : l.length ≤ 1000000) :
    Calls Tryz.prog 216 #[.pointer (some ⟨k, off, none⟩), .int .u32 s, .slice A l.length c] w fun e w' => e = .returned (.int .u32 (crcAdd T s l)) ∧ Below w.heap.size w w' := by
  obtain ⟨z, hz0⟩ : ∃ z, crcAdd T s l = z := ⟨_, rfl⟩
  have HZ := Lib.hid hz0
  rw [hz0]
  clear hz0
  go_enter Tryz.func216, Tryz.ntmps216
  go_wp2_with (fail)
  refine wp_scope_straight ?_
  go_wp2_with (fail)
  go_step3
  go_wp2_with (fail)
  go_loopw [1, 2] (fun st b wr => ∃ (s : Int) (A : Option Addr) (c : Nat) (l : List Int), st = .int .u32 s ∧ (0 ≤ s ∧ s < 4294967296) ∧ b = .slice A l.length c ∧ l.length ≤ c ∧ l.length ≤ 1000000 ∧ Hid (Kd.C (Kd.int .u8) w A l.length l) ∧ Below w.heap.size w wr ∧ Hid (crcAdd T s l = z))
    (fun _ b _ => lenV b)
  case atStart => exact ⟨s, A, c, l, rfl, hs, rfl, hc, hlen, Lib.hid hr, Below.refl _ _, HZ⟩
  case round =>
    obtain ⟨s, A, c, l, rfl, hs, rfl, hc, hlen, HC, hb, hz⟩ := hrel
    clear HZ
    rcases four_or T l with ⟨b0, b1, b2, b3, r, rfl⟩ | ⟨h4, hfo⟩
    · have hl : (b0 :: b1 :: b2 :: b3 :: r).length = r.length + 4 := rfl
      rw [hl] at hc hlen HC ⊢
      have hC := Kd.C_below HC.out hb
      obtain ⟨ad, rfl, _⟩ := Kd.at_int hC 0 (by omega) (by omega)
      have hx : ∀ j : Nat, j < 4 → wr.cell? (ad.add j) = some (.int .u8 (rd (b0 :: b1 :: b2 :: b3 :: r) (j : Int))) := fun j hj => by
        obtain ⟨ad', e, h⟩ := Kd.at_int hC (j : Int) (by omega) (by omega)
        cases e
        rwa [Int.toNat_natCast] at h
      have h0 : wr.cell? ad = some (.int .u8 b0) := by have := hx 0 (by omega); rwa [Addr.add_zero'] at this
      have h1 : wr.cell? { ad with off := ad.off + 1, spot := none } = some (.int .u8 b1) := hx 1 (by omega)
      have h2 : wr.cell? { ad with off := ad.off + 2, spot := none } = some (.int .u8 b2) := hx 2 (by omega)
      have h3 : wr.cell? { ad with off := ad.off + 3, spot := none } = some (.int .u8 b3) := hx 3 (by omega)
      have HTT := Lib.hid hT
      have HBB := Lib.hid hb
      clear hx hC hT hb hr
      go_wp2_with (fail)
      go_big_region
      go_wp2_with (fail)
      have hS1 : 0 ≤ crcMix s b0 b1 b2 b3 ∧ crcMix s b0 b1 b2 b3 < 4294967296 := u32_bits .xor s _
      have hSe : crcMix s b0 b1 b2 b3 = bits BinOp.xor IntKind.u32 s (bits BinOp.or IntKind.u32 (bits BinOp.or IntKind.u32 (bits BinOp.or IntKind.u32 (b0 % 4294967296) (b1 % 4294967296 * 256 % 4294967296)) (b2 % 4294967296 * 65536 % 4294967296)) (b3 % 4294967296 * 16777216 % 4294967296)) := rfl
      rw [← hSe]
      clear hSe
      have hz2 : Hid (crcAdd T (crcFour T (crcMix s b0 b1 b2 b3)) r = z) := hz
      generalize crcMix s b0 b1 b2 b3 = S at *
      obtain ⟨e0, l0⟩ := mask0 S hS1
      obtain ⟨e1, l1⟩ := mask1 S hS1
      obtain ⟨e2, l2⟩ := mask2 S hS1
      obtain ⟨e3, l3⟩ := mask3 S hS1
      have hF : Hid (crcFour T S = bits .xor .u32 (bits .xor .u32 (bits .xor .u32 (T (768 + (S % 256).toNat)) (T (512 + (S / 256 % 256).toNat))) (T (256 + (S / 65536 % 256).toNat))) (T (S / 16777216).toNat)) := Lib.hid rfl
      generalize (S % 256).toNat = i0 at *
      generalize (S / 256 % 256).toNat = i1 at *
      generalize (S / 65536 % 256).toNat = i2 at *
      generalize (S / 16777216).toNat = i3 at *
      have hT := HTT.out
      have t0 : wr.cell? ⟨k, off + 768 + i0, none⟩ = some (.int .u32 (T (768 + i0))) := by rw [Nat.add_assoc]; exact Below_cell HBB.out (hT _ (by omega))
      have t1 : wr.cell? ⟨k, off + 512 + i1, none⟩ = some (.int .u32 (T (512 + i1))) := by rw [Nat.add_assoc]; exact Below_cell HBB.out (hT _ (by omega))
      have t2 : wr.cell? ⟨k, off + 256 + i2, none⟩ = some (.int .u32 (T (256 + i2))) := by rw [Nat.add_assoc]; exact Below_cell HBB.out (hT _ (by omega))
      have t3 : wr.cell? ⟨k, off + i3, none⟩ = some (.int .u32 (T i3)) := Below_cell HBB.out (hT _ (by omega))
      clear hT h0 h1 h2 h3
      go_big_region
      go_wp2_with (fail)
      have hdr := Kd.C_drop (c := c) (m := 4) HC.out (by omega) hc
      refine ⟨⟨_, _, c - 4, r, rfl, u32_bits _ _ _, rfl, by omega, by omega, Lib.hid ?_, HBB.out.drew.drew, Lib.hid (by rw [← hz2.out, hF.out])⟩, by simp [lenV]⟩
      by_cases hca : c = 4
      · rw [if_pos hca] at hdr ⊢
        exact hdr
      · rw [if_neg hca] at hdr ⊢
        exact hdr
    · rw [hfo] at hz
      have HFO := Lib.hid hz.out
      clear hfo hz
      have h4f : (4 ≤ l.length) = False := eq_false (by omega)
      have h4i : ((4 : Int) ≤ (l.length : Int)) = False := eq_false (by omega)
      go_wp2_with (fail)
      go_loopw [1, 79] (fun st i wr => ∃ (x : Int) (k : Nat), st = .int .u32 x ∧ (0 ≤ x ∧ x < 4294967296) ∧ i = .int .i64 (k : Int) ∧ k ≤ l.length ∧ Below w.heap.size w wr ∧ Hid ((l.drop k).foldl (crcOne T) x = z))
        (fun _ i _ => l.length - (intOf i).toNat)
      case atStart => exact ⟨s, 0, rfl, hs, rfl, Nat.zero_le _, hb, Lib.hid (by rw [List.drop_zero]; exact HFO.out)⟩
      case round =>
        obtain ⟨x, i, rfl, hx, rfl, hi, hb2, hz2⟩ := hrel
        by_cases hlt : i < l.length
        · obtain ⟨ad, rfl, hcell⟩ := Kd.at_int (Kd.C_below HC.out hb2) (i : Int) (by omega) (by omega)
          rw [Int.toNat_natCast] at hcell
          have hrd : rd l (i : Int) = l[i] := by simp [rd, List.getD_eq_getElem?_getD, List.getElem?_eq_getElem hlt]
          have hz3 : Hid ((l.drop (i + 1)).foldl (crcOne T) (crcOne T x (rd l (i : Int))) = z) := Lib.hid (by
            have := hz2.out
            rw [List.drop_eq_getElem_cons hlt, List.foldl_cons] at this
            rw [hrd]; exact this)
          clear hz2 hrd
          generalize rd l (i : Int) = y at *
          have hy := u8_bits .xor (x % 256) y
          have hone : Hid (crcOne T x y = bits .xor .u32 (x / 256) (T (bits .xor .u8 (x % 256) y).toNat)) := Lib.hid rfl
          obtain ⟨j, hj⟩ : ∃ j : Nat, bits .xor .u8 (x % 256) y = (j : Int) := ⟨(bits .xor .u8 (x % 256) y).toNat, by omega⟩
          rw [hj] at hone hy
          rw [Int.toNat_natCast] at hone
          have t0 : wr.cell? ⟨k, off + j, none⟩ = some (.int .u32 (T j)) := Below_cell hb2 (hT _ (by omega))
          have HB2 := Lib.hid hb2
          have HTT := Lib.hid hT
          clear hT hb2 hb hr
          go_wp2_with (fail)
          exact ⟨⟨_, i + 1, rfl, u32_bits _ _ _, by simp, hlt, HB2.out, Lib.hid (by rw [← hz3.out, hone.out])⟩, by simp [intOf]; omega⟩
        · have hi2 : i = l.length := by omega
          subst hi2
          have hzx : x = z := by have := hz2.out; rwa [List.drop_length] at this
          clear hz2
          go_wp2_with (fail)
          rw [Exit.noGoto_ret]
          exact bodyPost_ret (v := .int .u32 x) (by simp [results, Tryz.results216, go_sem]) rfl ⟨by rw [hzx], hb2⟩
end Go.Proofs.YtgdlpgakhhebeaaGreatDoor
end
section
set_option linter.unusedVariables false
set_option linter.unusedSimpArgs false
namespace Go.Proofs.YtgdlpgakhhebeaaGreatDoor
open Go.RowKit Go.Proofs.YtgdlpgakhhebeaaGreatDoorW.PrintWords Go.Proofs.YtgdlpgakhhebeaaGreatDoorW.PrintMore
attribute [local go_sem] Oper.semAt_some
attribute [local go_sem] max2_int min2_int max_two min_two max_three min_three max_four min_four

/-- How many bytes other than 0 a list begins with. -/
def lead : List Int → Nat
  | [] => 0
  | c :: r => if c = 0 then 0 else lead r + 1
theorem lead_at : ∀ (l : List Int) (i : Nat) (h : i < l.length), (∀ j, j < i → rd l (j : Int) ≠ 0) → rd l (i : Int) = 0 → lead l = i
  | [], i, h, _, _ => by simp at h
  | c :: r, 0, _, _, h0 => by
    have : c = 0 := h0
    simp [lead, this]
  | c :: r, i + 1, h, hn, h0 => by
    have hc : c ≠ 0 := hn 0 (by omega)
    have := lead_at r i (by simpa using h) (fun j hj => by have := hn (j + 1) (by omega); simpa [rd] using this) (by simpa [rd] using h0)
    simp [lead, hc, this]
theorem lead_ge : ∀ (l : List Int) (m : Nat), m ≤ l.length → (∀ j, j < m → rd l (j : Int) ≠ 0) → m ≤ lead l
  | _, 0, _, _ => Nat.zero_le _
  | [], m + 1, h, _ => by simp at h
  | c :: r, m + 1, h, hn => by
    have hc : c ≠ 0 := hn 0 (by omega)
    have := lead_ge r m (by simpa using h) (fun j hj => by have := hn (j + 1) (by omega); simpa [rd] using this)
    simp [lead, hc]; exact this
theorem lead_le : ∀ (l : List Int), lead l ≤ l.length
  | [] => Nat.le_refl _
  | c :: r => by
    have := lead_le r
    unfold lead; split
    · simp
    · simp; exact this
/-- A block: its bytes, all that it takes, and whether another one follows. -/
def blk (l : List Int) : Nat × Nat × Bool :=
  if lead l < 254 ∧ lead l < l.length then (lead l, lead l + 1, true) else if 254 ≤ l.length then (254, 254, decide (254 < l.length)) else (l.length, l.length, false)
theorem blk_le (l : List Int) : (blk l).1 ≤ l.length ∧ (blk l).1 ≤ (blk l).2.1 ∧ (blk l).2.1 ≤ l.length ∧ (blk l).1 ≤ 254 ∧ ((blk l).2.2 = true → 0 < (blk l).2.1) := by
  unfold blk; split
  · simp; omega
  · split
    · simp; omega
    · simp; omega

set_option maxRecDepth 100000 in
set_option maxHeartbeats 2000000 in
theorem block_call (w : World) (A : Option Addr) (c : Nat) (l : List Int) (hr : Kd.C (Kd.int .u8) w A l.length l) (hc : l.length ≤ c) (hlen : l.length ≤ 1000000) :
    Calls Tryz.prog 243 #[.slice A l.length c] w fun e w' => e = .returned (.tuple #[.int .i64 ((blk l).1 : Int), .int .i64 ((blk l).2.1 : Int), .bool (blk l).2.2]) ∧ w = w' := by
  have hm : (if (254 : Int) < (l.length : Int) then (254 : Int) else (l.length : Int)) = ((min l.length 254 : Nat) : Int) := by split <;> omega
  have hml : (min l.length 254 ≤ l.length) = True := eq_true (by omega)
  have hmc : (min l.length 254 ≤ c) = True := eq_true (by omega)
  obtain ⟨m, hmm⟩ : ∃ m, min l.length 254 = m := ⟨_, rfl⟩
  have HM := Lib.hid hmm
  rw [hmm] at hm hml hmc
  clear hmm
  go_enter Tryz.func243, Tryz.ntmps243
  go_wp2
  go_loop [13] (fun t => ∃ i : Nat, t = .int .i64 (i : Int) ∧ i ≤ m ∧ Hid (∀ j, j < i → rd l (j : Int) ≠ 0)) (fun t => m - (intOf t).toNat)
  case atStart => exact ⟨0, rfl, Nat.zero_le _, Lib.hid (fun j h => absurd h (by omega))⟩
  case round =>
    obtain ⟨i, rfl, him, HN⟩ := hrel
    by_cases hlt : i < m
    · have hil : i < l.length := by have := HM.out; omega
      obtain ⟨ad, rfl, hcell⟩ := Kd.at_int hr (i : Int) (by omega) (by omega)
      rw [Int.toNat_natCast] at hcell
      by_cases hz : rd l (i : Int) = 0
      · have hb : blk l = (i, i + 1, true) := by
          have := HM.out
          have h2 := lead_at l i hil HN.out hz
          unfold blk; rw [if_pos (by omega), h2]
        have HBK := Lib.hid hb
        rw [hz] at hcell
        clear hz hb
        go_wp2
        refine bodyPost_ret (v := .tuple #[.int .i64 (i : Int), .int .i64 ((i : Int) + 1), .bool true]) (by simp [results, Tryz.results243, go_sem]) rfl ⟨?_, rfl⟩
        rw [HBK.out]
        first | rfl | simp
      · have hzb : (rd l (i : Int) == 0) = false := by simpa using hz
        have HZ := Lib.hid hz
        clear hz
        generalize hx : rd l (i : Int) = x at *
        have HX := Lib.hid hx
        clear hx
        go_wp2
        go_round
        case rel => exact ⟨i + 1, by first | rfl | simp, hlt, Lib.hid (fun j hj => by
          rcases Nat.lt_or_ge j i with h | h
          · exact HN.out j h
          · rw [show j = i by omega, HX.out]; exact HZ.out)⟩
        case measure => simp [intOf]; omega
    · have hi : i = m := by omega
      subst hi
      have hge := lead_ge l i (by have := HM.out; omega) HN.out
      by_cases h254 : 254 ≤ l.length
      · have hb : blk l = (254, 254, decide (254 < l.length)) := by
          have := HM.out
          unfold blk; rw [if_neg (by omega), if_pos h254]
        have HBK := Lib.hid hb
        have h254t : ((254 : Int) ≤ (l.length : Int)) = True := eq_true (by omega)
        have h254n : (254 ≤ l.length) = True := eq_true h254
        clear hb hge
        go_wp2
        refine bodyPost_ret (v := .tuple #[.int .i64 254, .int .i64 254, .bool (decide (254 < l.length))]) (by simp [results, Tryz.results243, go_sem]; omega) rfl ⟨?_, rfl⟩
        rw [HBK.out]
        first | rfl | simp
      · have hb : blk l = (l.length, l.length, false) := by
          have := HM.out
          have := lead_le l
          unfold blk; rw [if_neg (by omega), if_neg h254]
        have HBK := Lib.hid hb
        have h254n : (254 ≤ l.length) = False := eq_false h254
        clear hb hge
        go_wp2
        refine bodyPost_ret (v := .tuple #[.int .i64 (l.length : Int), .int .i64 (l.length : Int), .bool false]) (by simp [results, Tryz.results243, go_sem]) rfl ⟨?_, rfl⟩
        rw [HBK.out]
end Go.Proofs.YtgdlpgakhhebeaaGreatDoor
end
section
set_option linter.unusedVariables false
set_option linter.unusedSimpArgs false
namespace Go.Proofs.YtgdlpgakhhebeaaGreatDoor
open Go.RowKit Go.Proofs.YtgdlpgakhhebeaaGreatDoorW.PrintWords Go.Proofs.YtgdlpgakhhebeaaGreatDoorW.PrintMore
attribute [local go_sem] Oper.semAt_some

def bls : Nat → List Int → List (List Int)
  | 0, _ => []
  | f + 1, l => l.take (blk l).1 :: (if (blk l).2.2 = true then bls f (l.drop (blk l).2.1) else [])
/-- The blocks of bytes. -/
def blks (l : List Int) : List (List Int) := bls (l.length + 1) l
theorem bls_fuel : ∀ (f g : Nat) (l : List Int), l.length < f → l.length < g → bls f l = bls g l
  | 0, _, _, h, _ => absurd h (by omega)
  | _ + 1, 0, _, _, h => absurd h (by omega)
  | f + 1, g + 1, l, hf, hg => by
    unfold bls
    split
    · rename_i hm
      have := blk_le l
      rw [bls_fuel f g (l.drop (blk l).2.1) (by rw [List.length_drop]; have := this.2.2.2.2 hm; omega) (by rw [List.length_drop]; have := this.2.2.2.2 hm; omega)]
    · rfl
theorem blks_at (l : List Int) : blks l = l.take (blk l).1 :: (if (blk l).2.2 = true then blks (l.drop (blk l).2.1) else []) := by
  have h : blks l = l.take (blk l).1 :: (if (blk l).2.2 = true then bls l.length (l.drop (blk l).2.1) else []) := rfl
  rw [h]
  split
  · rename_i hm
    have := blk_le l
    have h2 := this.2.2.2.2 hm
    unfold blks
    rw [bls_fuel l.length ((l.drop (blk l).2.1).length + 1) _ (by rw [List.length_drop]; omega) (by omega)]
  · rfl
theorem bls_len : ∀ (f : Nat) (l : List Int), (bls f l).length ≤ l.length + 1
  | 0, _ => by simp [bls]
  | f + 1, l => by
    unfold bls
    split
    · rename_i hm
      have := blk_le l
      have h2 := this.2.2.2.2 hm
      have := bls_len f (l.drop (blk l).2.1)
      rw [List.length_drop] at this
      simp only [List.length_cons]; omega
    · simp
theorem blks_len (l : List Int) : (blks l).length ≤ l.length + 1 := bls_len _ _

def BlkQ (l : List Int) (k : Nat) (vs : Array Value) (T : Nat → Prop) (B : Nat) (W : World) : Prop :=
  ∃ (xs : List Int) (v : Value), (blks l)[k]? = some xs ∧ xs.length ≤ 254 ∧ vs = #[v] ∧ Kd.R (Kd.int .u8) 5 W B (fun _ => True) v xs
theorem infoB : (Tryz.prog.info? 5).map (fun i => (i.zero, i.size, i.bytes)) = some (some (.int .u8 0), 1, 1) := by kernel_rfl

def left : Value → Value → Nat
  | .slice _ n _, .bool true => n + 1
  | _, _ => 0
set_option maxRecDepth 100000 in
set_option maxHeartbeats 2000000 in
theorem blocks1 (w0 w : World) (Bb : Nat) (A : Option Addr) (c : Nat) (l : List Int) (hB : w.cell? ⟨Bb, 0, none⟩ = some (.slice A l.length c)) (hc : l.length ≤ c) (hr : Kd.C (Kd.int .u8) w0 A l.length l) (hlen : l.length ≤ 1000000) (hb : Below w0.heap.size w0 w) :
    Iter Tryz.prog 242 #[.pointer (some ⟨Bb, 0, none⟩)] (blks l).length NoT (fun b => b < w0.heap.size ∨ b = Bb) (fun _ => False) (BlkQ l) (fun _ _ _ _ => True) w := by
  intro l' J Jx W hW hY h0
  have hBW : W.cell? ⟨Bb, 0, none⟩ = some (.slice A l.length c) := hW.cell hB (.inl (.inr rfl))
  have HY := Lib.hid hY
  have HJ := Lib.hid h0
  clear hY h0 hB
  show Calls Tryz.prog 242 #[.func (.yield l') #[] #[], .pointer (some ⟨Bb, 0, none⟩)] W _
  go_enter Tryz.func242, Tryz.ntmps242
  go_wp2
  go_loopw [3, 4] (fun r b wr => ∃ (mo : Bool) (rest : List Int) (Ar : Option Addr) (cr m : Nat) (W0 : World) (dn : List (List Int)), r = .slice Ar rest.length cr ∧ b = .bool mo ∧ rest.length ≤ cr ∧ rest.length ≤ l.length ∧ Hid ((Kd.int .u8).C w0 Ar rest.length rest) ∧ Hid (blks l = dn ++ (if mo = true then blks rest else [])) ∧ Hid (dn.length = m) ∧ J m (fun _ => False) W0 ∧ Stab (fun _ => False) W0.heap.size W0 wr ∧ Keep (fun b => b < w0.heap.size ∨ b = Bb) W wr)
    (fun r b _ => left r b)
  case atStart =>
    exact ⟨true, l, A, c, 0, W, [], rfl, rfl, hc, Nat.le_refl _, Lib.hid hr, Lib.hid (by simp), Lib.hid rfl, HJ.out, Stab.refl _ _ _, Keep.refl _ _⟩
  case round =>
    obtain ⟨mo, rest, Ar, cr, m, W0, dn, rfl, rfl, hrc, hrl, HC, HD, HM, hJ, hst, hk⟩ := hrel
    have hbr : Below w0.heap.size w0 wr := hb.trans (((hW.mono (fun b h => .inl h)).trans hk).mono (fun b h => .inl h) |>.to_below hb.size)
    have HBB := Lib.hid hbr
    clear hBW hbr
    cases mo with
    | false =>
      go_wp2
      go_end0
      exact ⟨⟨_, rfl⟩, (fun _ => False), (fun _ => False), W0, m, noT, fun _ h => .inl h, hst, .inl ⟨by have := congrArg List.length HD.out; have h2 := HM.out; simp at this; omega, hJ, trivial⟩⟩
    | true =>
      have hblk := blk_le rest
      have hbc := block_call wr Ar cr rest (Kd.C_below HC.out HBB.out) hrc (by omega)
      have hat := blks_at rest
      generalize hq : blk rest = q at *
      obtain ⟨n, all, nx⟩ := q
      simp only at hblk hat hbc
      have HAT := Lib.hid hat
      have HBK := Lib.hid hblk
      clear hat hblk hq
      go_upto_region 3 with (go_at_call 243; refine hbc.mono ?_; rintro e w' ⟨rfl, rfl⟩)
      have hn := HBK.out
      have hncr : (n ≤ cr) = True := eq_true (by omega)
      have hCp : (Kd.int .u8).C (wr.alloc (.cells #[] 5)) Ar n (rest.take n) := Kd.C_alloc (C_take (m := n) (Kd.C_below HC.out HBB.out) hn.1) _
      obtain ⟨v1, w1, hrun, hR1, hg1, hat1⟩ := run_app_row (P := Tryz.prog) (t := 25) (e := 5) (ty := 25) (c := n) .u8 Tryz.underlying25 infoB (by decide) (R_empty (Kd.int .u8) 5 wr wr.heap.size (Nat.le_refl _) (fun _ => True) trivial) hCp (fun _ _ => trivial) (by simp) (by simp; omega)
      clear hCp hat1
      have hb1 : Below wr.heap.size wr w1 := ((Below.refl _ wr).alloc (Nat.le_refl _) _).grown hg1 (by simp) (fun k e => by simp [Value.ownBlock] at e; omega)
      have hseg : (blks l)[m]? = some (rest.take n) := by
        rw [HD.out, List.getElem?_append_right (by rw [HM.out]; exact Nat.le_refl _), HM.out, Nat.sub_self, if_pos trivial, HAT.out]
        rfl
      obtain ⟨fn, tmps, assign, body, hy, hR⟩ := HY.out m (fun _ => False) (fun _ => False) W0 w1 #[v1] (List.getElem?_eq_some_iff.1 hseg).1 hJ noT (fun _ h => h.elim) (fun _ h => h.elim) (hst.trans (Stab.of_below (T := fun _ => False) hb1) (fun _ h => h.elim))
        ⟨_, v1, hseg, by rw [List.length_take]; omega, rfl, Kd.R_lower hR1 hst.size⟩
      have HR := Lib.hid hR
      have HB1 := Lib.hid hb1
      have HSG := Lib.hid hseg
      clear hR1 hg1 hR hb1 hseg hbc
      refine (wpIn_wide (n := 5)).1 ?_
      gi_wp2_with (gi_at_builtin; refine runIn_app _ _ _ (by kernel_rfl) rfl hrun ?_)
      refine (HR.out _).mono ?_
      rintro e W3 (⟨rfl, hJ3, hk3⟩ | ⟨rfl, hJ3, hk3⟩)
      · have HK3 := Lib.hid hk3
        clear hk3 hrun hy
        gi_wp2
        have hall : (all ≤ rest.length) = True := eq_true hn.2.2.1
        have hnx : ∀ (Ar' : Option Addr) (cr' : Nat), rest.length - all ≤ cr' → (Kd.int .u8).C w0 Ar' (rest.drop all).length (rest.drop all) → ∃ (mo : Bool) (rest' : List Int) (Ar2 : Option Addr) (cr2 m2 : Nat) (W02 : World) (dn2 : List (List Int)), (.slice Ar' (rest.length - all) cr' : Value) = .slice Ar2 rest'.length cr2 ∧ (.bool nx : Value) = .bool mo ∧ rest'.length ≤ cr2 ∧ rest'.length ≤ l.length ∧ Hid ((Kd.int .u8).C w0 Ar2 rest'.length rest') ∧ Hid (blks l = dn2 ++ (if mo = true then blks rest' else [])) ∧ Hid (dn2.length = m2) ∧ J m2 (fun _ => False) W02 ∧ Stab (fun _ => False) W02.heap.size W02 W3 ∧ Keep (fun b => b < w0.heap.size ∨ b = Bb) W W3 := by
          intro Ar' cr' hcr' hC'
          refine ⟨nx, rest.drop all, Ar', cr', m + 1, W3, dn ++ [rest.take n], by rw [List.length_drop], rfl, by rw [List.length_drop]; omega, by rw [List.length_drop]; omega, Lib.hid hC', Lib.hid ?_, Lib.hid (by rw [List.length_append, HM.out]; rfl), hJ3, Stab.refl _ _ _, (hk.trans (Keep.of_below HB1.out)).trans (HK3.out.mono (fun b h => .inl h))⟩
          rw [HD.out, if_pos trivial, HAT.out, List.append_assoc]
          rfl
        have HNX := Lib.hid hnx
        have hms : ∀ (Ar' : Option Addr) (cr' : Nat), left (.slice Ar' (rest.length - all) cr') (.bool nx) < left (.slice Ar rest.length cr) (.bool true) := by
          intro Ar' cr'
          cases nx with
          | true => have := hn.2.2.2.2 rfl; simp [left]; omega
          | false => simp [left]
        have HMS := Lib.hid hms
        clear hnx hms hk HK3 hst hJ hJ3
        have hdr := Kd.C_drop (c := cr) HC.out hn.2.2.1 hrc
        by_cases hca : cr = all
        · rw [if_pos hca] at hdr
          have HDR := Lib.hid hdr
          subst hca
          clear hdr
          go_wp2
          have z : rest.length - cr = 0 := by omega
          have h1 := HNX.out Ar 0 (by omega) HDR.out
          have h2 := HMS.out Ar 0
          rw [z] at h1 h2
          exact ⟨h1, h2⟩
        · rw [if_neg hca, show all * (Kd.int .u8).sz = all from Nat.mul_one _] at hdr
          have HDR := Lib.hid hdr
          have hca1 : (all = cr) = False := eq_false (fun e => hca e.symm)
          clear hdr
          go_wp2
          exact ⟨HNX.out _ _ (by omega) HDR.out, HMS.out _ _⟩
      · clear hk3 hrun hy
        gi_wp2
        go_wp2
        refine bodyPost_ret (results_none rfl _ _ _) rfl ?_
        exact ⟨⟨_, rfl⟩, (fun _ => False), (fun _ => False), W3, m, noT, fun _ h => .inl h, Stab.refl _ _ _, .inr ⟨(List.getElem?_eq_some_iff.1 HSG.out).1, hJ3, trivial⟩⟩

theorem blocks_call (v : Value) (A : Option Addr) (n c : Nat) (hv : v = .slice A n c) (w : World) : Calls Tryz.prog 190 #[v] w fun e w' => e = .returned (.func (.func 242) #[] #[.pointer (some ⟨w.heap.size, 0, none⟩)]) ∧ w.alloc (.cells #[v] 25) = w' := by
  subst hv
  go_enter Tryz.func190, Tryz.ntmps190
  go_wp2
  go_ret
  exact ⟨rfl, rfl⟩
end Go.Proofs.YtgdlpgakhhebeaaGreatDoor
end
section
set_option linter.unusedVariables false
set_option linter.unusedSimpArgs false
namespace Go.Proofs.YtgdlpgakhhebeaaGreatDoor
open Go.RowKit Go.Proofs.YtgdlpgakhhebeaaGreatDoorW.PrintWords Go.Proofs.YtgdlpgakhhebeaaGreatDoorW.PrintMore
attribute [local go_sem] Oper.semAt_some
attribute [local go_sem] max2_int min2_int max_two min_two max_three min_three max_four min_four

theorem Tbl.below {w W : World} {k off : Nat} {T : Nat → Int} (h : Tbl w k off T) (hb : Below w.heap.size w W) : Tbl W k off T := fun j hj => Below_cell hb (h j hj)
theorem crcAdd_u32 (T : Nat → Int) : ∀ (l : List Int) (s : Int), 0 ≤ s ∧ s < 4294967296 → 0 ≤ crcAdd T s l ∧ crcAdd T s l < 4294967296
  | [], s, h => by simpa [crcAdd] using h
  | [_], s, h => by simp only [crcAdd, List.foldl]; exact u32_bits _ _ _
  | [_, _], s, h => by simp only [crcAdd, List.foldl]; exact u32_bits _ _ _
  | [_, _, _], s, h => by simp only [crcAdd, List.foldl]; exact u32_bits _ _ _
  | b0 :: b1 :: b2 :: b3 :: r, s, h => by rw [crcAdd]; exact crcAdd_u32 T r _ (u32_bits _ _ _)
/-- The sum of bytes. -/
def crcSum (T : Nat → Int) (l : List Int) : Int := bits .xor .u32 IntKind.u32.max (crcAdd T 4294967295 l)
theorem crcEnd_call' (w : World) (p : Addr) (s : Int) : Calls Tryz.prog 217 #[.pointer (some p), .int .u32 s] w fun e w' => e = .returned (.int .u32 (bits .xor .u32 IntKind.u32.max s)) ∧ w = w' := by
  go_enter Tryz.func217, Tryz.ntmps217
  go_wp2
  go_ret
  exact ⟨rfl, rfl⟩
set_option maxRecDepth 100000 in
set_option maxHeartbeats 2000000 in
theorem crcSum_call (w : World) (k off : Nat) (T : Nat → Int) (hT : Tbl w k off T) (ad : Addr) (c1 : Nat) (A : Option Addr) (c : Nat) (l : List Int) (hr : Kd.C (Kd.int .u8) w A l.length l) (hc : l.length ≤ c) (hlen : l.length ≤ 1000000) (hcell : w.cell? ad = some (.slice A l.length c)) (hc1 : 1 ≤ c1) :
    Calls Tryz.prog 159 #[.pointer (some ⟨k, off, none⟩), .slice (some ad) 1 c1] w fun e w' => e = .returned (.int .u32 (crcSum T l)) ∧ Below w.heap.size w w' := by
  obtain ⟨n, hn⟩ : ∃ n, l.length = n := ⟨_, rfl⟩
  have HTT := Lib.hid hT
  have HR := Lib.hid hr
  have HN := Lib.hid hn
  rw [hn] at hcell
  clear hT hr hn
  go_enter Tryz.func159, Tryz.ntmps159
  go_wp2_with (fail)
  refine (crcBegin_call _ _).mono ?_
  rintro e w2 ⟨rfl, rfl⟩
  go_wp2_with (fail)
  go_loopw [5, 12] (fun st i wr => ∃ (x : Int) (k : Nat), st = .int .u32 x ∧ (0 ≤ x ∧ x < 4294967296) ∧ i = .int .i64 (k : Int) ∧ k ≤ 1 ∧ Below w.heap.size w wr ∧ Hid (x = if k = 0 then 4294967295 else crcAdd T 4294967295 l))
    (fun _ i _ => 1 - (intOf i).toNat)
  case atStart => exact ⟨4294967295, 0, rfl, by omega, rfl, by omega, Below.refl _ _, Lib.hid rfl⟩
  case round =>
    obtain ⟨x, i, rfl, hx, rfl, hi, hb, hz⟩ := hrel
    by_cases h0 : i = 0
    · subst h0
      have hcw : wr.cell? ad = some (.slice A n c) := Below_cell hb hcell
      have HB := Lib.hid hb
      clear hb hcell
      go_wp2_with (fail)
      have hadd := crcAdd_call wr k off T (HTT.out.below HB.out) x hx A c l (Kd.C_below HR.out HB.out) hc hlen
      rw [HN.out] at hadd
      refine hadd.mono ?_
      rintro e w3 ⟨rfl, hb3⟩
      have HB3 := Lib.hid hb3
      clear hb3 hadd
      go_wp2_with (fail)
      have hx0 : x = 4294967295 := by simpa using hz.out
      exact ⟨⟨_, 1, rfl, crcAdd_u32 T l x hx, rfl, by omega, HB.out.trans (HB3.out.mono HB.out.size), Lib.hid (by rw [hx0]; rfl)⟩, by simp [intOf]⟩
    · obtain rfl : i = 1 := by omega
      have hx0 : x = crcAdd T 4294967295 l := by simpa using hz.out
      have HB := Lib.hid hb
      clear hz hb h0
      have HX := Lib.hid hx0
      clear hx0
      go_wp2_with (fail)
      refine (crcEnd_call' _ _ _).mono ?_
      rintro e w3 ⟨rfl, rfl⟩
      go_wp2_with (fail)
      exact bodyPost_ret (v := .int .u32 (bits .xor .u32 IntKind.u32.max x)) (by simp [results, Tryz.results159, go_sem]) rfl ⟨by rw [HX.out]; rfl, HB.out⟩

theorem cell_at {W : World} {b j : Nat} {cs : Array Value} {t : Nat} {v : Value} (h : W.heap[b]? = some (.cells cs t)) (hj : cs[j]? = some v) : W.cell? ⟨b, j, none⟩ = some v := by
  simp [World.cell?, h, hj]
theorem C_lit (k : IntKind) (W : World) (b : Nat) (xs : List Int) (hn : xs.length ≤ 9223372036854775807) (h : ∀ (j : Nat) (x : Int), xs[j]? = some x → W.cell? ⟨b, j, none⟩ = some (.int k x)) : (Kd.int k).C W (some ⟨b, 0, none⟩) xs.length xs := by
  refine ⟨rfl, hn, fun _ => ⟨_, rfl, fun j p hj => ⟨[.int k p], rfl, rfl, fun i u hu => ?_⟩⟩⟩
  match i, hu with
  | 0, hu =>
    cases hu
    have := h j p hj
    cases j with
    | zero => simpa [Addr.add] using this
    | succ j => simpa [Addr.add, Kd.int, Kd.scalar] using this
  | i + 1, hu => simp at hu
/-- Bytes, and their sum. -/
def sealed (T : Nat → Int) (l : List Int) : List Int := l ++ [crcSum T l % 256, crcSum T l / 256 % 256, crcSum T l / 65536 % 256, crcSum T l / 16777216 % 256]
set_option maxRecDepth 100000 in
set_option maxHeartbeats 2000000 in
theorem crcSeal_call (w : World) (k off : Nat) (T : Nat → Int) (hT : Tbl w k off T) (A : Option Addr) (c : Nat) (l : List Int) (hr : Kd.C (Kd.int .u8) w A l.length l) (hc : l.length ≤ c) (hlen : l.length ≤ 1000000) :
    Calls Tryz.prog 135 #[.pointer (some ⟨k, off, none⟩), .slice A l.length c] w fun e w' => ∃ v0_ : Value, e = .returned v0_ ∧ Kd.R (Kd.int .u8) 5 w' w.heap.size (fun _ => True) v0_ (sealed T l) ∧ Below w.heap.size w w' := by
  obtain ⟨n, hn⟩ : ∃ n, l.length = n := ⟨_, rfl⟩
  have HTT := Lib.hid hT
  have HR := Lib.hid hr
  have HN := Lib.hid hn
  rw [hn]
  clear hT hr hn
  go_enter Tryz.func135, Tryz.ntmps135
  go_wp2_with (fail)
  have bA : Below w.heap.size w (w.alloc (.cells #[.slice A n c] 25)) := (Below.refl _ w).alloc (Nat.le_refl _) _
  have hcell : (w.alloc (.cells #[.slice A n c] 25)).cell? ⟨w.heap.size, 0, none⟩ = some (.slice A l.length c) := by
    rw [HN.out]; exact (Boxed.new w 25 (.slice A n c)).cell
  refine (crcSum_call _ k off T (HTT.out.below bA) ⟨w.heap.size, 0, none⟩ 1 A c l (Kd.C_below HR.out bA) hc hlen hcell (Nat.le_refl _)).mono ?_
  rintro e w2 ⟨rfl, hb2⟩
  have HB2 := Lib.hid (bA.trans (hb2.mono bA.size))
  clear hb2 hcell bA
  go_wp2_with (fail)
  refine (crcBytes_call _ _).mono ?_
  rintro e w3 ⟨rfl, hb3⟩
  have HB3 := Lib.hid (HB2.out.trans (hb3.mono HB2.out.size))
  clear hb3
  go_wp2_with (fail)
  obtain ⟨X4, hX4⟩ : ∃ X4, crcSum T l = X4 := ⟨_, rfl⟩
  have HX4 := Lib.hid hX4
  rw [hX4]
  clear hX4
  obtain ⟨b, hb⟩ : ∃ b, w3.heap.size = b := ⟨_, rfl⟩
  rw [hb]
  obtain ⟨W, hW⟩ : ∃ W, w3.alloc (.cells #[.int .u8 (X4 % 256), .int .u8 (X4 / 256 % 256), .int .u8 (X4 / 65536 % 256), .int .u8 (X4 / 16777216 % 256)] 331) = W := ⟨_, rfl⟩
  have bW : Below w.heap.size w W := by rw [← hW]; exact HB3.out.alloc HB3.out.size _
  have hn : W.heap[b]? = some (.cells #[.int .u8 (X4 % 256), .int .u8 (X4 / 256 % 256), .int .u8 (X4 / 65536 % 256), .int .u8 (X4 / 16777216 % 256)] 331) := by
    rw [← hW, ← hb]; exact World.alloc_heap_new w3 _
  have hbW : w.heap.size ≤ b := by rw [← hb]; exact HB3.out.size
  have hbl : b < W.heap.size := by rw [← hW, ← hb]; simp
  rw [hW]
  have BW := Lib.hid bW
  have HNW := Lib.hid hn
  clear hW hn hb bW
  have hCp : (Kd.int .u8).C (W.drew.alloc (.cells #[] 5)) A l.length l := Kd.C_alloc (Kd.C_drew (Kd.C_below HR.out BW.out)) _
  obtain ⟨v1, w1, hrun, hR1, hg1, hat1⟩ := run_app_row (P := Tryz.prog) (t := 25) (e := 5) (ty := 25) (c := c) .u8 Tryz.underlying25 infoB (by decide) (R_empty (Kd.int .u8) 5 W.drew W.drew.heap.size (Nat.le_refl _) (fun _ => True) trivial) hCp (fun _ _ => trivial) (by simp) (by simp; omega)
  have hb1 : Below W.heap.size W w1 := (((Below.refl _ W).drew).alloc (Nat.le_refl _) _).grown hg1 (by simp) (fun k e => by cases e; exact Nat.le_refl _)
  rw [List.nil_append] at hR1
  rw [HN.out] at hrun
  obtain ⟨A1, c1, e1⟩ := Kd.R_slice hR1
  rw [HN.out] at e1
  subst e1
  have hC4 : (Kd.int .u8).C w1 (some ⟨b, 0, none⟩) 4 [X4 % 256, X4 / 256 % 256, X4 / 65536 % 256, X4 / 16777216 % 256] := C_lit .u8 w1 b _ (by simp) (fun j x hj => by
    have hn1 := (hb1.block b hbl).trans HNW.out
    match j, hj with
    | 0, hj => cases hj; exact cell_at hn1 rfl
    | 1, hj => cases hj; exact cell_at hn1 rfl
    | 2, hj => cases hj; exact cell_at hn1 rfl
    | 3, hj => cases hj; exact cell_at hn1 rfl
    | j + 4, hj => simp at hj)
  obtain ⟨v2, w5, hrun2, hR2, hg2, hat2⟩ := run_app_row (P := Tryz.prog) (t := 25) (e := 5) (ty := 25) (c := 4) .u8 Tryz.underlying25 infoB (by decide) hR1 hC4 (fun _ _ => trivial) hb1.size (by simp; omega)
  have hb2 : Below W.heap.size W w5 := hb1.grown hg2 hb1.size (fun k e => Kd.R_base hR1 k e)
  have HFIN := Lib.hid (And.intro hR2 hb2)
  clear hR1 hR2 hg1 hg2 hat1 hat2 hC4 hCp hb1 hb2
  refine wp_region_noPanic ?_
  go_region_law (first | (refine step_app (.tmp 13) (.tmp 14) 25 rfl rfl hrun ?_) | (refine step_app (.tmp 15) (.tmp 16) 25 rfl rfl hrun2 ?_))
  all_goals refine NoPanic.normal ?_
  all_goals go_wp2_with (fail)
  all_goals exact bodyPost_ret (v := v2) (by simp [results, Tryz.results135, Act.put, go_sem]) (by simp [Act.put]) ⟨_, rfl, Kd.R_lower (by unfold sealed; rw [HX4.out]; exact HFIN.out.1) BW.out.size, BW.out.trans (HFIN.out.2.mono BW.out.size)⟩
end Go.Proofs.YtgdlpgakhhebeaaGreatDoor
end
