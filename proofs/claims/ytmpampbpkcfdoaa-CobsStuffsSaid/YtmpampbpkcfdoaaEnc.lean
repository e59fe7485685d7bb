/- cobs.Size, cobs.Encode: what they hand back. -/
import Derived.Test.YtmpampbpkcfdoaaBlks
import Derived.Deep.RegionLaw
import Derived.Deep.RegionHeld3
import Derived.RegionTactic
set_option linter.unusedVariables false
set_option linter.unusedSimpArgs false
namespace Go.Proofs.Ytmpampbpkcfdoaa
open Go.RowKit Go.Proofs.YtmpampbpkcfdoaaW.PrintWords Go.Proofs.YtmpampbpkcfdoaaW.PrintMore
attribute [local go_sem] Oper.semAt_some

/-- How many bytes blocks have, stuffed. -/
def szs : List (List Int) → Nat
  | [] => 0
  | x :: r => x.length + 1 + szs r
theorem szs_app : ∀ (a b : List (List Int)), szs (a ++ b) = szs a + szs b
  | [], b => by simp [szs]
  | x :: r, b => by simp [szs, szs_app r b]; omega
theorem szs_le : ∀ (a : List (List Int)), (∀ x ∈ a, x.length ≤ 254) → szs a ≤ 255 * a.length
  | [], _ => by simp [szs]
  | x :: r, h => by
    have h1 := h x (by simp)
    have h2 := szs_le r (fun y hy => h y (by simp [hy]))
    simp [szs]; omega
theorem bls_mem : ∀ (f : Nat) (l : List Int) (x : List Int), x ∈ bls f l → x.length ≤ 254
  | 0, _, _, h => by simp [bls] at h
  | f + 1, l, x, h => by
    unfold bls at h
    rcases List.mem_cons.1 h with rfl | h
    · have := blk_le l; rw [List.length_take]; omega
    · split at h
      · exact bls_mem f _ x h
      · simp at h
/-- Blocks, stuffed. -/
def enc : List (List Int) → List Int
  | [] => []
  | x :: r => (((x.length + 1 : Nat) : Int) :: x) ++ enc r
theorem enc_app : ∀ (a b : List (List Int)), enc (a ++ b) = enc a ++ enc b
  | [], b => by simp [enc]
  | x :: r, b => by simp [enc, enc_app r b]
theorem enc_len : ∀ (a : List (List Int)), (enc a).length = szs a
  | [] => rfl
  | x :: r => by simp [enc, szs, enc_len r]; omega
theorem szs_take (l : List Int) (k : Nat) : szs ((blks l).take k) ≤ 255 * (l.length + 1) := by
  have h := szs_le ((blks l).take k) (fun x hx => bls_mem _ _ x (List.mem_of_mem_take hx))
  have := blks_len l
  have h3 : ((blks l).take k).length ≤ l.length + 1 := by rw [List.length_take]; omega
  exact Nat.le_trans h (Nat.mul_le_mul_left _ h3)

def SizeI (l w0 : List Int) (w : World) (k : Nat) (W : World) : Prop := Boxed W w.heap.size 3 (.int .i64 (szs ((blks l).take k) : Int)) ∧ Below w.heap.size w W

def EncI (l : List Int) (w : World) (k : Nat) (W : World) : Prop :=
  ∃ (A : Option Addr) (c : Nat) (ys : List Int), ys = enc ((blks l).take k) ∧ Boxed W w.heap.size 22 (.slice A ys.length c) ∧ Kd.R (Kd.int .u8) 5 W (w.heap.size + 2) (fun _ => True) (.slice A ys.length c) ys ∧ Below w.heap.size w W ∧ w.heap.size + 2 ≤ W.heap.size

/-- A round of cobs.Encode: how many, then the bytes, behind what is in a box. -/
theorem enc_round (W2 : World) (B base n0 : Nat) (hB : B < base) (hbn : base ≤ n0) (hn0 : n0 ≤ W2.heap.size) (A1 : Option Addr) (c1 : Nat) (ys : List Int) (b2 : Boxed W2 B 22 (.slice A1 ys.length c1))
    (R1 : (Kd.int .u8).R 5 W2 base (fun _ => True) (.slice A1 ys.length c1) ys) (hlt : ∀ q, (Value.slice A1 ys.length c1).ownBlock = some q → q < n0)
    (A2 : Option Addr) (c2 : Nat) (xs : List Int) (R2 : (Kd.int .u8).R 5 W2 n0 (fun _ => True) (.slice A2 xs.length c2) xs) (hl : ys.length ≤ 300000000) (hx : xs.length ≤ 254) :
    ∃ A3 c3 w1 A4 c4 w4, (Builtin.append_ #[22, 22] 22 #[.slice A1 ys.length c1, .slice (some ⟨W2.heap.size, 0, none⟩) 1 1]).run Try.prog (W2.alloc (.cells #[.int .u8 ((xs.length : Int) + 1)] 5)) = .ok (.slice A3 (ys.length + 1) c3) w1 ∧
      Boxed w1 B 22 (.slice A1 ys.length c1) ∧
      (Builtin.append_ #[22, 22] 22 #[.slice A3 (ys.length + 1) c3, .slice A2 xs.length c2]).run Try.prog (w1.setCell ⟨B, 0, none⟩ (.slice A3 (ys.length + 1) c3)) = .ok (.slice A4 (ys.length + 1 + xs.length) c4) w4 ∧
      Boxed w4 B 22 (.slice A3 (ys.length + 1) c3) ∧
      ∀ Wf, Wf = w4.setCell ⟨B, 0, none⟩ (.slice A4 (ys.length + 1 + xs.length) c4) → Boxed Wf B 22 (.slice A4 (ys ++ (((xs.length : Int) + 1) :: xs)).length c4) ∧ (Kd.int .u8).R 5 Wf base (fun _ => True) (.slice A4 (ys ++ (((xs.length : Int) + 1) :: xs)).length c4) (ys ++ (((xs.length : Int) + 1) :: xs)) ∧ Keep (fun b => b < base ∧ b ≠ B) W2 Wf ∧ Books W2 Wf ∧ W2.heap.size ≤ Wf.heap.size ∧ (∀ (m : Nat) (w : World), Below m w W2 → m ≤ B → Below m w Wf) := by
  have hbase : base ≤ W2.heap.size := by omega
  obtain ⟨v1, w1, r1, S1, g1, a1⟩ := run_app_one (P := Try.prog) (t := 22) (e := 5) (ty := 22) (p := (xs.length : Int) + 1) (cs := [.int .u8 ((xs.length : Int) + 1)]) (okp := fun _ => False) (Kd.int .u8) Try.underlying22 infoB rfl (by decide) (by decide) R1 rfl (fun _ h => h.elim) (fun _ _ => trivial) hbase (by omega)
  obtain ⟨A3, c3, e3⟩ := Kd.R_slice S1
  rw [List.length_append, List.length_singleton] at e3
  subst e3
  have hb1 : ∀ q, (Value.slice A1 ys.length c1).ownBlock = some q → base ≤ q := fun q e => Kd.R_base R1 q e
  have b3 : Boxed w1 B 22 (.slice A1 ys.length c1) := boxed_app b2 g1 (fun q e => by have := hb1 q e; omega)
  have k1 : Keep (fun b => b < base ∧ b ≠ B) W2 w1 := Keep.grown g1 (fun q e => by have := hb1 q e; omega)
  have o1 : Books W2 w1 := books_row g1 (Kd.R_typed R1)
  have k2 : Keep (fun b => b < base ∧ b ≠ B) w1 (w1.setCell ⟨B, 0, none⟩ (.slice A3 (ys.length + 1) c3)) := Keep.setCell _ (by simp) _
  have o2 : Books w1 (w1.setCell ⟨B, 0, none⟩ (.slice A3 (ys.length + 1) c3)) := Books.setCell _ _ _
  have S2 : (Kd.int .u8).R 5 (w1.setCell ⟨B, 0, none⟩ (.slice A3 (ys.length + 1) c3)) base (fun _ => True) (.slice A3 (ys.length + 1) c3) (ys ++ [(xs.length : Int) + 1]) := Kd.R_set S1 b3 (by decide) _ _
  have b4 : Boxed (w1.setCell ⟨B, 0, none⟩ (.slice A3 (ys.length + 1) c3)) B 22 (.slice A3 (ys.length + 1) c3) := b3.set _
  have X2 : (Kd.int .u8).C (w1.setCell ⟨B, 0, none⟩ (.slice A3 (ys.length + 1) c3)) A2 xs.length xs := by
    have hkept : Kept W2 (w1.setCell ⟨B, 0, none⟩ (.slice A3 (ys.length + 1) c3)) (fun k => (Value.slice A1 ys.length c1).ownBlock = some k ∨ k = B) :=
      Kept.setCell (Kept.of_grown g1 (Kept.refl W2 _) (fun k e => .inl (.inl e))) (.inl (.inr rfl)) _
    have := Kd.R_kept (Kd.R_bound R2) hkept (fun k hk hs => by
      rcases hs with hs | hs
      · have := hlt k hs; omega
      · omega)
    exact (Kd.R_reads' this).2.2
  generalize hw2 : w1.setCell ⟨B, 0, none⟩ (.slice A3 (ys.length + 1) c3) = w2 at *
  obtain ⟨v4, w4, r4, S4, g4, a4⟩ := run_app_row (P := Try.prog) (t := 22) (e := 5) (ty := 22) (c := c2) .u8 Try.underlying22 infoB (by decide) S2 X2 (fun _ _ => trivial) (Nat.le_trans hbase (Nat.le_trans k1.size k2.size)) (by rw [List.length_append, List.length_singleton]; omega)
  obtain ⟨A4, c4, e4⟩ := Kd.R_slice S4
  have e5 : (ys ++ [(xs.length : Int) + 1] ++ xs).length = ys.length + 1 + xs.length := by simp; omega
  rw [e5] at e4
  subst e4
  have hb4 : ∀ q, (Value.slice A3 (ys.length + 1) c3).ownBlock = some q → base ≤ q := fun q e => Kd.R_base S2 q e
  have b5 : Boxed w4 B 22 (.slice A3 (ys.length + 1) c3) := boxed_app b4 g4 (fun q e => by have := hb4 q e; omega)
  have k3 : Keep (fun b => b < base ∧ b ≠ B) w2 w4 := Keep.grown g4 (fun q e => by have := hb4 q e; omega)
  have o3 : Books w2 w4 := books_row g4 (Kd.R_typed S2)
  subst hw2
  refine ⟨A3, c3, w1, A4, c4, w4, r1, b3, r4, b5, ?_⟩
  rintro Wf rfl
  have e6 : ys ++ (((xs.length : Int) + 1) :: xs) = ys ++ [(xs.length : Int) + 1] ++ xs := by simp
  rw [e6, e5]
  refine ⟨b5.set _, Kd.R_set S4 b5 (by decide) _ _, (((k1.trans k2).trans k3).trans (Keep.setCell _ (by simp) _)), (((o1.trans o2).trans o3).trans (Books.setCell _ _ _)), ?_, ?_⟩
  · have := ((k1.trans k2).trans k3).size
    simp [World.setCell]; exact this
  · intro m w h hm
    have q1 : Below m w w1 := below_app h g1 (by omega) (fun q e => by have := hb1 q e; omega)
    have q2 := q1.setCell (p := ⟨B, 0, none⟩) hm (.slice A3 (ys.length + 1) c3)
    have q3 : Below m w w4 := below_app q2 g4 (by have := k1.size; have := k2.size; omega) (fun q e => by have := hb4 q e; omega)
    exact q3.setCell (p := ⟨B, 0, none⟩) hm _

namespace Ext
def cobs_Size.f (l0 : List Int) : Option Int := if l0.length ≤ 1000000 then some (szs (blks l0) : Int) else none
set_option maxRecDepth 100000 in
set_option maxHeartbeats 2000000 in
theorem cobs_Size.calls (A0 : Option Addr) (c0 : Nat) (l0 : List Int) (r : Int) (w : World) (hr0 : Kd.C (Kd.int .u8) w A0 l0.length l0) (hc0 : l0.length ≤ c0) (h : cobs_Size.f l0 = some r) :
    Calls Try.prog 7 #[.slice A0 l0.length c0] w fun e w' => e = .returned (.int .i64 r) ∧ Below w.heap.size w w' := by
  unfold cobs_Size.f at h
  split at h
  case isFalse => cases h
  rename_i hlen
  obtain rfl := Option.some.inj h
  clear h
  refine (callsIn_wide (n := 5)).1 (callsIn_of_wp_marks Try.func7 rfl trivial ?_ rfl)
  simp only [Try.ntmps7, List.size_toArray, List.length_cons, List.length_nil, Nat.reduceAdd, Nat.reduceSub, Array.replicate_succ, Array.replicate_zero, List.push_toArray, List.append_toArray, List.nil_append, List.cons_append]
  refine wpIn_wide.2 ?_
  go_wp2_with (go_at_call 17; refine (blocks_call _ _ _ _ rfl _).mono ?_; rintro e w' ⟨rfl, rfl⟩)
  have hbW : Below w.heap.size w ((w.alloc (.cells #[.int .i64 0] 3)).alloc (.cells #[.slice A0 l0.length c0] 22)) := ((Below.refl _ w).alloc (Nat.le_refl _) _).alloc (by simp) _
  obtain ⟨w2, hw2⟩ : ∃ w2, ((w.alloc (.cells #[.int .i64 0] 3)).alloc (.cells #[.slice A0 l0.length c0] 22)) = w2 := ⟨_, rfl⟩
  have hs2 : w2.heap.size = w.heap.size + 2 := by rw [← hw2]; simp
  have bO : Boxed w2 w.heap.size 3 (.int .i64 0) := by rw [← hw2]; exact (Boxed.new w 3 (.int .i64 0)).alloc _
  have bB : Boxed w2 (w.heap.size + 1) 22 (.slice A0 l0.length c0) := by rw [← hw2]; have := Boxed.new (w.alloc (.cells #[.int .i64 0] 3)) 22 (.slice A0 l0.length c0); rwa [World.size_alloc] at this
  rw [hw2] at hbW ⊢
  refine wp_range0 (gf := 18) (lb := #[.pointer (some ⟨w.heap.size + 1, 0, none⟩)]) rfl (enters_of Try.func18 (by kernel_rfl) rfl)
    (blocks1 w w2 (w.heap.size + 1) A0 c0 l0 bB.cell hc0 hr0 hlen hbW) (fun b hb => by rcases hb with hb | hb <;> omega) (fun k vs T B W h => by obtain ⟨_, _, _, _, rfl, _⟩ := h; rfl)
    (SizeI l0 l0 w) (fun _ _ _ => False) ?hI (fun _ _ _ _ h _ => h) ?h0 ?round ?done ?stop
  case hI =>
    rintro k W W' ⟨h1, h2⟩ hs
    exact ⟨boxed_stab h1 hs (fun h => h), hs.below h2 (by omega) h2.size (fun _ _ h => h)⟩
  case h0 => exact ⟨bO, hbW⟩
  case round =>
    rintro l n k T W0 X vs hk ⟨h1, h2⟩ hst ⟨xs, v2, hseg, hxl, rfl, hR⟩ hRb
    obtain ⟨A2, c2, rfl⟩ := Kd.R_slice hR
    have hsum : szs ((blks l0).take (k + 1)) = szs ((blks l0).take k) + (xs.length + 1) := by
      rw [List.take_add_one, hseg, szs_app]; simp [szs]
    have hle := szs_take l0 (k + 1)
    have HSUM := Lib.hid hsum
    generalize szs ((blks l0).take k) = s at *
    have HK := Lib.hid (And.intro hk (And.intro hle hsum))
    clear hseg hR hk hle hsum
    gi_wp2
    refine ⟨Below.refl _ _, fun W2 hs => ?_⟩
    have hs02 := hst.trans hs (fun b h => h.elim)
    have b2 := boxed_stab h1 hs02 (fun h => h)
    have hB4 : Below w.heap.size w W2 := hs02.below h2 (by omega) h2.size (fun _ _ h => h)
    have c2' := b2.cell
    have f2 := b2.frozen
    have HS := Lib.hid hB4
    clear h1 h2 hs02 hB4 hst hs
    have e1 : wrap64 ((xs.length : Int) + 1) = (xs.length : Int) + 1 := by have := HK.out; unfold wrap64; omega
    have e2 : wrap64 ((s : Int) + ((xs.length : Int) + 1)) = (s : Int) + ((xs.length : Int) + 1) := by have := HK.out; unfold wrap64; omega
    gi_wp2
    refine ⟨Keep.setCell _ (by simp) _, Books.setCell _ _ _, ?_, HS.out.setCell (p := ⟨w.heap.size, 0, none⟩) (by simp) _⟩
    have := b2.set (.int .i64 ((s : Int) + ((xs.length : Int) + 1)))
    rw [HSUM.out]
    exact this
  case done =>
    rintro D W ⟨h1, h2⟩ hD hd
    have hcb := h1.cell
    rw [List.take_length] at hcb
    have HH := Lib.hid (And.intro h2 hd)
    clear h1 h2 hd
    go_wp2
    refine marks_ret (v := .int .i64 (szs (blks l0) : Int)) (by simp [results, Try.results7, Act.put, go_sem]) (by simp [Act.put]) HH.out.2 ⟨rfl, ?_⟩
    exact (stab_shut (T := fun _ => False) (n := w.heap.size) HH.out.2 (by omega)).below HH.out.1 (Nat.le_refl _) HH.out.1.size (fun _ _ h => h)
  case stop =>
    rintro D c k W _ h
    exact h.elim

def cobs_Encode.f (l0 : List Int) : Option (List Int) := if l0.length ≤ 1000000 then some (enc (blks l0)) else none
set_option maxRecDepth 100000 in
set_option maxHeartbeats 2000000 in
theorem cobs_Encode.calls (A0 : Option Addr) (c0 : Nat) (l0 : List Int) (r : List Int) (w : World) (hr0 : Kd.C (Kd.int .u8) w A0 l0.length l0) (hc0 : l0.length ≤ c0) (h : cobs_Encode.f l0 = some r) :
    Calls Try.prog 10 #[.slice A0 l0.length c0] w fun e w' => ∃ v0_ : Value, e = .returned v0_ ∧ Kd.R (Kd.int .u8) 5 w' w.heap.size (fun _ => True) v0_ r ∧ Below w.heap.size w w' := by
  unfold cobs_Encode.f at h
  split at h
  case isFalse => cases h
  rename_i hlen
  have hr := Option.some.inj h
  have HRR := Lib.hid hr
  clear h hr
  refine (callsIn_wide (n := 5)).1 (callsIn_of_wp_marks Try.func10 rfl trivial ?_ rfl)
  simp only [Try.ntmps10, List.size_toArray, List.length_cons, List.length_nil, Nat.reduceAdd, Nat.reduceSub, Array.replicate_succ, Array.replicate_zero, List.push_toArray, List.append_toArray, List.nil_append, List.cons_append]
  refine wpIn_wide.2 ?_
  go_wp2_with (go_at_call 17; refine (blocks_call _ _ _ _ rfl _).mono ?_; rintro e w' ⟨rfl, rfl⟩)
  have hbW : Below w.heap.size w ((w.alloc (.cells #[.slice none 0 0] 22)).alloc (.cells #[.slice A0 l0.length c0] 22)) := ((Below.refl _ w).alloc (Nat.le_refl _) _).alloc (by simp) _
  obtain ⟨w2, hw2⟩ : ∃ w2, ((w.alloc (.cells #[.slice none 0 0] 22)).alloc (.cells #[.slice A0 l0.length c0] 22)) = w2 := ⟨_, rfl⟩
  have hs2 : w2.heap.size = w.heap.size + 2 := by rw [← hw2]; simp
  have bO : Boxed w2 w.heap.size 22 (.slice none 0 0) := by rw [← hw2]; exact (Boxed.new w 22 (.slice none 0 0)).alloc _
  have bB : Boxed w2 (w.heap.size + 1) 22 (.slice A0 l0.length c0) := by rw [← hw2]; have := Boxed.new (w.alloc (.cells #[.slice none 0 0] 22)) 22 (.slice A0 l0.length c0); rwa [World.size_alloc] at this
  rw [hw2] at hbW ⊢
  refine wp_range0 (gf := 18) (lb := #[.pointer (some ⟨w.heap.size + 1, 0, none⟩)]) rfl (enters_of Try.func18 (by kernel_rfl) rfl)
    (blocks1 w w2 (w.heap.size + 1) A0 c0 l0 bB.cell hc0 hr0 hlen hbW) (fun b hb => by rcases hb with hb | hb <;> omega) (fun k vs T B W h => by obtain ⟨_, _, _, _, rfl, _⟩ := h; rfl)
    (EncI l0 w) (fun _ _ _ => False) ?hI (fun _ _ _ _ h _ => h) ?h0 ?round ?done ?stop
  case hI =>
    rintro k W W' ⟨A, c, ys, hy, h1, h2, h3, h4⟩ hs
    exact ⟨A, c, ys, hy, boxed_stab h1 hs (fun h => h), R_stab h2 hs (fun _ _ h => h), hs.below h3 (by omega) h3.size (fun _ _ h => h), Nat.le_trans h4 hs.size⟩
  case h0 => exact ⟨none, 0, [], rfl, bO, Kd.R_nil _ _ _ _ _, hbW, by omega⟩
  case round =>
    rintro l n k T W0 X vs hk ⟨A1, c1, ys, hy, h1, h2, h3, h4⟩ hst ⟨xs, v2, hseg, hxl, rfl, hR⟩ hRb
    obtain ⟨A2, c2, rfl⟩ := Kd.R_slice hR
    have hlen2 : ys.length ≤ 255 * (l0.length + 1) := by rw [hy, enc_len]; exact szs_take l0 k
    have HY := Lib.hid (And.intro hy hseg)
    clear hy hseg
    gi_wp2
    refine ⟨Below.refl _ _, fun W2 hs => ?_⟩
    have hs02 := hst.trans hs (fun b h => h.elim)
    have b2 := boxed_stab h1 hs02 (fun h => h)
    have R1 := R_stab h2 hs02 (fun _ _ h => h)
    have R2 := R_stab hR hs (fun _ _ h => h)
    have hsz : W0.heap.size ≤ W2.heap.size := hs02.size
    obtain ⟨A3, c3, w1, A4, c4, w4, r1, b3, r4, b5, hfin⟩ := enc_round W2 w.heap.size (w.heap.size + 2) W0.heap.size (by omega) h4 hsz A1 c1 ys b2 R1 (fun q e => Kd.R_lt h2 q e) A2 c2 xs R2 (by omega) hxl
    have hB4 : Below w.heap.size w W2 := hs02.below h3 (by omega) h3.size (fun _ _ h => h)
    have hz4 : w.heap.size + 2 ≤ W2.heap.size := by omega
    have HF := Lib.hid (And.intro hfin (And.intro hB4 hz4))
    have hw8 : ((xs.length : Int) + 1) % 256 = (xs.length : Int) + 1 := by omega
    have e1 : wrap64 ((xs.length : Int) + 1) = (xs.length : Int) + 1 := by unfold wrap64; omega
    have c2' := cell_al b2.cell (.cells #[.int .u8 ((xs.length : Int) + 1)] 5)
    have c2'' := b2.cell
    have c3' := b3.cell
    have f3' := b3.frozen
    have b4 := b3.set (.slice A3 (ys.length + 1) c3)
    have c4' := b4.cell
    have c5' := b5.cell
    have f5' := b5.frozen
    clear h1 h2 h3 h4 hst hs hs02 R1 R2 hR hfin hB4 hz4 hsz b2 b3 b4 b5
    gi_wp2_with (gi_at_builtin; first | (refine runIn_app _ _ _ (by kernel_rfl) rfl r1 ?_) | (refine runIn_app _ _ _ (by kernel_rfl) rfl r4 ?_))
    obtain ⟨g1, g2, g3, g4, g5, g6⟩ := HF.out.1 _ rfl
    refine ⟨g3.mono (fun b hb => by omega), g4, A4, c4, _, ?_, g1, g2, g6 _ _ HF.out.2.1 (Nat.le_refl _), by have := HF.out.2.2; omega⟩
    rw [List.take_add_one, HY.out.2, enc_app, ← HY.out.1]
    simp [enc]
  case done =>
    rintro D W ⟨A1, c1, ys, hy, h1, h2, h3, h4⟩ hD hd
    rw [List.take_length] at hy
    have hcb := h1.cell
    have HH := Lib.hid (And.intro (hy.trans HRR.out) (And.intro h2 (And.intro h3 hd)))
    clear hy h1 h2 h3 hd
    go_wp2
    have st := stab_shut (T := fun _ => False) (n := w.heap.size) HH.out.2.2.2 (by omega)
    refine marks_ret (v := .slice A1 ys.length c1) (by simp [results, Try.results10, Act.put, go_sem]) (by simp [Act.put]) HH.out.2.2.2 ⟨_, rfl, ?_, ?_⟩
    · have := R_stab HH.out.2.1 st (fun _ _ h => h)
      rw [← HH.out.1]
      exact Kd.R_lower this (by omega)
    · exact st.below HH.out.2.2.1 (Nat.le_refl _) HH.out.2.2.1.size (fun _ _ h => h)
  case stop =>
    rintro D c k W _ h
    exact h.elim
end Ext
end Go.Proofs.Ytmpampbpkcfdoaa
