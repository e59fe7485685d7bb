/- The iterator of cobs.Blocks. -/
import Derived.Test.YtmpampbpkcfdoaaBlk
set_option linter.unusedVariables false
set_option linter.unusedSimpArgs false
namespace Go.Proofs.Ytmpampbpkcfdoaa
open Go.RowKit Go.Proofs.YtmpampbpkcfdoaaW.PrintWords Go.Proofs.YtmpampbpkcfdoaaW.PrintMore
attribute [local go_sem] Oper.semAt_some

def bls : Nat → List Int → List (List Int)
  | 0, _ => []
  | f + 1, l => l.take (blk l).1 :: (if (blk l).2.2 = true then bls f (l.drop (blk l).2.1) else [])
/-- The blocks of bytes. -/
def blks (l : List Int) : List (List Int) := bls (l.length + 1) l
theorem bls_fuel : ∀ (f g : Nat) (l : List Int), l.length < f → l.length < g → bls f l = bls g l
  | 0, _, _, h, _ => absurd h (by omega)
  | _ + 1, 0, _, _, h => absurd h (by omega)
  | f + 1, g + 1, l, hf, hg => by
    unfold bls
    split
    · rename_i hm
      have := blk_le l
      rw [bls_fuel f g (l.drop (blk l).2.1) (by rw [List.length_drop]; have := this.2.2.2.2 hm; omega) (by rw [List.length_drop]; have := this.2.2.2.2 hm; omega)]
    · rfl
theorem blks_at (l : List Int) : blks l = l.take (blk l).1 :: (if (blk l).2.2 = true then blks (l.drop (blk l).2.1) else []) := by
  have h : blks l = l.take (blk l).1 :: (if (blk l).2.2 = true then bls l.length (l.drop (blk l).2.1) else []) := rfl
  rw [h]
  split
  · rename_i hm
    have := blk_le l
    have h2 := this.2.2.2.2 hm
    unfold blks
    rw [bls_fuel l.length ((l.drop (blk l).2.1).length + 1) _ (by rw [List.length_drop]; omega) (by omega)]
  · rfl
theorem bls_len : ∀ (f : Nat) (l : List Int), (bls f l).length ≤ l.length + 1
  | 0, _ => by simp [bls]
  | f + 1, l => by
    unfold bls
    split
    · rename_i hm
      have := blk_le l
      have h2 := this.2.2.2.2 hm
      have := bls_len f (l.drop (blk l).2.1)
      rw [List.length_drop] at this
      simp only [List.length_cons]; omega
    · simp
theorem blks_len (l : List Int) : (blks l).length ≤ l.length + 1 := bls_len _ _

def BlkQ (l : List Int) (k : Nat) (vs : Array Value) (T : Nat → Prop) (B : Nat) (W : World) : Prop :=
  ∃ (xs : List Int) (v : Value), (blks l)[k]? = some xs ∧ xs.length ≤ 254 ∧ vs = #[v] ∧ Kd.R (Kd.int .u8) 5 W B (fun _ => True) v xs
theorem infoB : (Try.prog.info? 5).map (fun i => (i.zero, i.size, i.bytes)) = some (some (.int .u8 0), 1, 1) := by kernel_rfl

def left : Value → Value → Nat
  | .slice _ n _, .bool true => n + 1
  | _, _ => 0
set_option maxRecDepth 100000 in
set_option maxHeartbeats 2000000 in
theorem blocks1 (w0 w : World) (Bb : Nat) (A : Option Addr) (c : Nat) (l : List Int) (hB : w.cell? ⟨Bb, 0, none⟩ = some (.slice A l.length c)) (hc : l.length ≤ c) (hr : Kd.C (Kd.int .u8) w0 A l.length l) (hlen : l.length ≤ 1000000) (hb : Below w0.heap.size w0 w) :
    Iter Try.prog 18 #[.pointer (some ⟨Bb, 0, none⟩)] (blks l).length NoT (fun b => b < w0.heap.size ∨ b = Bb) (fun _ => False) (BlkQ l) (fun _ _ _ _ => True) w := by
  intro l' J Jx W hW hY h0
  have hBW : W.cell? ⟨Bb, 0, none⟩ = some (.slice A l.length c) := hW.cell hB (.inl (.inr rfl))
  have HY := Lib.hid hY
  have HJ := Lib.hid h0
  clear hY h0 hB
  show Calls Try.prog 18 #[.func (.yield l') #[] #[], .pointer (some ⟨Bb, 0, none⟩)] W _
  go_enter Try.func18, Try.ntmps18
  go_wp2
  go_loopw [3, 4] (fun r b wr => ∃ (mo : Bool) (rest : List Int) (Ar : Option Addr) (cr m : Nat) (W0 : World) (dn : List (List Int)), r = .slice Ar rest.length cr ∧ b = .bool mo ∧ rest.length ≤ cr ∧ rest.length ≤ l.length ∧ Hid ((Kd.int .u8).C w0 Ar rest.length rest) ∧ Hid (blks l = dn ++ (if mo = true then blks rest else [])) ∧ Hid (dn.length = m) ∧ J m (fun _ => False) W0 ∧ Stab (fun _ => False) W0.heap.size W0 wr ∧ Keep (fun b => b < w0.heap.size ∨ b = Bb) W wr)
    (fun r b _ => left r b)
  case atStart =>
    exact ⟨true, l, A, c, 0, W, [], rfl, rfl, hc, Nat.le_refl _, Lib.hid hr, Lib.hid (by simp), Lib.hid rfl, HJ.out, Stab.refl _ _ _, Keep.refl _ _⟩
  case round =>
    obtain ⟨mo, rest, Ar, cr, m, W0, dn, rfl, rfl, hrc, hrl, HC, HD, HM, hJ, hst, hk⟩ := hrel
    have hbr : Below w0.heap.size w0 wr := hb.trans (((hW.mono (fun b h => .inl h)).trans hk).mono (fun b h => .inl h) |>.to_below hb.size)
    have HBB := Lib.hid hbr
    clear hBW hbr
    cases mo with
    | false =>
      go_wp2
      go_end0
      exact ⟨⟨_, rfl⟩, (fun _ => False), (fun _ => False), W0, m, noT, fun _ h => .inl h, hst, .inl ⟨by have := congrArg List.length HD.out; have h2 := HM.out; simp at this; omega, hJ, trivial⟩⟩
    | true =>
      have hblk := blk_le rest
      have hbc := block_call wr Ar cr rest (Kd.C_below HC.out HBB.out) hrc (by omega)
      have hat := blks_at rest
      generalize hq : blk rest = q at *
      obtain ⟨n, all, nx⟩ := q
      simp only at hblk hat hbc
      have HAT := Lib.hid hat
      have HBK := Lib.hid hblk
      clear hat hblk hq
      go_upto_region 3 with (go_at_call 19; refine hbc.mono ?_; rintro e w' ⟨rfl, rfl⟩)
      have hn := HBK.out
      have hncr : (n ≤ cr) = True := eq_true (by omega)
      have hCp : (Kd.int .u8).C (wr.alloc (.cells #[] 5)) Ar n (rest.take n) := Kd.C_alloc (C_take (m := n) (Kd.C_below HC.out HBB.out) hn.1) _
      obtain ⟨v1, w1, hrun, hR1, hg1, hat1⟩ := run_app_row (P := Try.prog) (t := 22) (e := 5) (ty := 22) (c := n) .u8 Try.underlying22 infoB (by decide) (R_empty (Kd.int .u8) 5 wr wr.heap.size (Nat.le_refl _) (fun _ => True) trivial) hCp (fun _ _ => trivial) (by simp) (by simp; omega)
      clear hCp hat1
      have hb1 : Below wr.heap.size wr w1 := ((Below.refl _ wr).alloc (Nat.le_refl _) _).grown hg1 (by simp) (fun k e => by simp [Value.ownBlock] at e; omega)
      have hseg : (blks l)[m]? = some (rest.take n) := by
        rw [HD.out, List.getElem?_append_right (by rw [HM.out]; exact Nat.le_refl _), HM.out, Nat.sub_self, if_pos trivial, HAT.out]
        rfl
      obtain ⟨fn, tmps, assign, body, hy, hR⟩ := HY.out m (fun _ => False) (fun _ => False) W0 w1 #[v1] (List.getElem?_eq_some_iff.1 hseg).1 hJ noT (fun _ h => h.elim) (fun _ h => h.elim) (hst.trans (Stab.of_below (T := fun _ => False) hb1) (fun _ h => h.elim))
        ⟨_, v1, hseg, by rw [List.length_take]; omega, rfl, Kd.R_lower hR1 hst.size⟩
      have HR := Lib.hid hR
      have HB1 := Lib.hid hb1
      have HSG := Lib.hid hseg
      clear hR1 hg1 hR hb1 hseg hbc
      refine (wpIn_wide (n := 5)).1 ?_
      gi_wp2_with (gi_at_builtin; refine runIn_app _ _ _ (by kernel_rfl) rfl hrun ?_)
      refine (HR.out _).mono ?_
      rintro e W3 (⟨rfl, hJ3, hk3⟩ | ⟨rfl, hJ3, hk3⟩)
      · have HK3 := Lib.hid hk3
        clear hk3 hrun hy
        gi_wp2
        have hall : (all ≤ rest.length) = True := eq_true hn.2.2.1
        have hnx : ∀ (Ar' : Option Addr) (cr' : Nat), rest.length - all ≤ cr' → (Kd.int .u8).C w0 Ar' (rest.drop all).length (rest.drop all) → ∃ (mo : Bool) (rest' : List Int) (Ar2 : Option Addr) (cr2 m2 : Nat) (W02 : World) (dn2 : List (List Int)), (.slice Ar' (rest.length - all) cr' : Value) = .slice Ar2 rest'.length cr2 ∧ (.bool nx : Value) = .bool mo ∧ rest'.length ≤ cr2 ∧ rest'.length ≤ l.length ∧ Hid ((Kd.int .u8).C w0 Ar2 rest'.length rest') ∧ Hid (blks l = dn2 ++ (if mo = true then blks rest' else [])) ∧ Hid (dn2.length = m2) ∧ J m2 (fun _ => False) W02 ∧ Stab (fun _ => False) W02.heap.size W02 W3 ∧ Keep (fun b => b < w0.heap.size ∨ b = Bb) W W3 := by
          intro Ar' cr' hcr' hC'
          refine ⟨nx, rest.drop all, Ar', cr', m + 1, W3, dn ++ [rest.take n], by rw [List.length_drop], rfl, by rw [List.length_drop]; omega, by rw [List.length_drop]; omega, Lib.hid hC', Lib.hid ?_, Lib.hid (by rw [List.length_append, HM.out]; rfl), hJ3, Stab.refl _ _ _, (hk.trans (Keep.of_below HB1.out)).trans (HK3.out.mono (fun b h => .inl h))⟩
          rw [HD.out, if_pos trivial, HAT.out, List.append_assoc]
          rfl
        have HNX := Lib.hid hnx
        have hms : ∀ (Ar' : Option Addr) (cr' : Nat), left (.slice Ar' (rest.length - all) cr') (.bool nx) < left (.slice Ar rest.length cr) (.bool true) := by
          intro Ar' cr'
          cases nx with
          | true => have := hn.2.2.2.2 rfl; simp [left]; omega
          | false => simp [left]
        have HMS := Lib.hid hms
        clear hnx hms hk HK3 hst hJ hJ3
        have hdr := Kd.C_drop (c := cr) HC.out hn.2.2.1 hrc
        by_cases hca : cr = all
        · rw [if_pos hca] at hdr
          have HDR := Lib.hid hdr
          subst hca
          clear hdr
          go_wp2
          have z : rest.length - cr = 0 := by omega
          have h1 := HNX.out Ar 0 (by omega) HDR.out
          have h2 := HMS.out Ar 0
          rw [z] at h1 h2
          exact ⟨h1, h2⟩
        · rw [if_neg hca, show all * (Kd.int .u8).sz = all from Nat.mul_one _] at hdr
          have HDR := Lib.hid hdr
          have hca1 : (all = cr) = False := eq_false (fun e => hca e.symm)
          clear hdr
          go_wp2
          exact ⟨HNX.out _ _ (by omega) HDR.out, HMS.out _ _⟩
      · clear hk3 hrun hy
        gi_wp2
        go_wp2
        refine bodyPost_ret (results_none rfl _ _ _) rfl ?_
        exact ⟨⟨_, rfl⟩, (fun _ => False), (fun _ => False), W3, m, noT, fun _ h => .inl h, Stab.refl _ _ _, .inr ⟨(List.getElem?_eq_some_iff.1 HSG.out).1, hJ3, trivial⟩⟩

theorem blocks_call (v : Value) (A : Option Addr) (n c : Nat) (hv : v = .slice A n c) (w : World) : Calls Try.prog 17 #[v] w fun e w' => e = .returned (.func (.func 18) #[] #[.pointer (some ⟨w.heap.size, 0, none⟩)]) ∧ w.alloc (.cells #[v] 22) = w' := by
  subst hv
  go_enter Try.func17, Try.ntmps17
  go_wp2
  go_ret
  exact ⟨rfl, rfl⟩
end Go.Proofs.Ytmpampbpkcfdoaa
