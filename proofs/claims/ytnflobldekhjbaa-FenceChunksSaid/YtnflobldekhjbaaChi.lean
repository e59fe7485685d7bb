/- fence.Chunks: its iterator's word. -/
import Derived.Test.YtnflobldekhjbaaChk
import Derived.Deep.RegionLaw
import Derived.Deep.RegionHeld3
import Derived.RegionTactic
set_option linter.unusedVariables false
set_option linter.unusedSimpArgs false
namespace Go.Proofs.Ytnflobldekhjbaa
open Go.RowKit Go.Proofs.YtnflobldekhjbaaW.PrintWords Go.Proofs.YtnflobldekhjbaaW.PrintMore
attribute [local go_sem] Oper.semAt_some
attribute [local go_sem] max2_int min2_int max_two min_two max_three min_three max_four min_four

theorem infoB5 : (Try.prog.info? 5).map (fun i => (i.zero, i.size, i.bytes)) = some (some (.int .u8 0), 1, 1) := by kernel_rfl
theorem w64' {x : Int} (h : -9000000000000000000 ≤ x) (h2 : x ≤ 9000000000000000000) : wrap64 x = x := by unfold wrap64; omega
theorem w64n {q : Nat} (h : q ≤ 1000000000) : wrap64 (q : Int) = (q : Int) := by unfold wrap64; omega
theorem mx_nat (x : Int) : (if x < 0 then 0 else x) = (x.toNat : Int) := by split <;> omega
theorem mn_nat (Y l : Nat) : (if Y < l then (Y : Int) else (l : Int)) = ((min l Y : Nat) : Int) := by split <;> omega
def intV : Value → Int
  | .int _ n => n
  | _ => 0
def leftN (L : List (List Int)) (m : Nat) : Nat := L.length - m

/-- Between two rounds of the second loop. -/
def ChkR (w0 : World) (Bb Bs : Nat) (sz : List Int) (l : List Int) (L : List (List Int)) (J : Nat → (Nat → Prop) → World → Prop) (W : World) (t : Value) (wr : World) : Prop :=
  ∃ (i : Nat) (rest : List Int) (Ar : Option Addr) (cr : Nat) (W0 : World) (dn Lr : List (List Int)) (fu : Nat), t = .int .i64 (i : Int) ∧ dn.length = i ∧ L = dn ++ Lr ∧ chs fu sz i rest = some Lr ∧ Boxed wr Bb 22 (.slice Ar rest.length cr) ∧ rest.length ≤ cr ∧ rest.length ≤ l.length ∧ (Kd.int .u8).C w0 Ar rest.length rest ∧ J i (fun x => x = Bb) W0 ∧ Stab (fun x => x = Bb) W0.heap.size W0 wr ∧ Keep (fun b => b < w0.heap.size ∨ b = Bs) W wr

set_option maxRecDepth 100000 in
set_option maxHeartbeats 4000000 in
theorem chunks1 (w0 w : World) (Bb Bs : Nat) (A : Option Addr) (c : Nat) (l : List Int) (As : Option Addr) (cs : Nat) (sz : List Int) (L : List (List Int)) (hL : chs 13000 sz 0 l = some L) (hB : Boxed w Bb 22 (.slice A l.length c)) (hS : Boxed w Bs 29 (.slice As sz.length cs)) (hBs : Bs ≠ Bb) (hBl : w0.heap.size ≤ Bb) (hc : l.length ≤ c) (hcs : sz.length ≤ cs) (hr : Kd.C (Kd.int .u8) w0 A l.length l) (hrs : Kd.C (Kd.int .i64) w0 As sz.length sz) (hlen : l.length ≤ 1000000) (hsl : sz.length ≤ 1000) (hb : Below w0.heap.size w0 w) :
    Iter Try.prog 18 #[.pointer (some ⟨Bs, 0, none⟩), .pointer (some ⟨Bb, 0, none⟩)] L.length (IsB Bb) (fun b => b < w0.heap.size ∨ b = Bs) (fun x => x = Bb) (ChkQ L) (fun _ _ _ _ => True) w := by
  intro l' J Jx W hW hY h0
  have bB : Boxed W Bb 22 (.slice A l.length c) := hW.same _ _ hB (.inr rfl)
  have bS : Boxed W Bs 29 (.slice As sz.length cs) := hW.same _ _ hS (.inl (.inr rfl))
  have hbW : Below w0.heap.size w0 W := hb.trans ((hW.mono (fun b h => .inl (.inl h))).to_below hb.size)
  have HY := Lib.hid hY
  have HJ := Lib.hid (And.intro h0 (And.intro hbW bB))
  have hSW : W.cell? ⟨Bs, 0, none⟩ = some (.slice As sz.length cs) := bS.cell
  have HBS := Lib.hid bS
  clear hY h0 hB hS bB bS
  show Calls Try.prog 18 #[.func (.yield l') #[] #[], .pointer (some ⟨Bs, 0, none⟩), .pointer (some ⟨Bb, 0, none⟩)] W _
  go_enter Try.func18, Try.ntmps18
  go_wp2_with (fail)
  go_loop [4, 11] (fun b t => ∃ (bb : Bool) (i : Nat), b = .bool bb ∧ t = .int .i64 (i : Int) ∧ i ≤ sz.length ∧ Hid (bb = whl (sz.take i))) (fun _ t => sz.length - (intV t).toNat)
  case atStart => exact ⟨true, 0, rfl, rfl, Nat.zero_le _, Lib.hid (by simp [whl])⟩
  case round =>
    obtain ⟨bb, i, rfl, rfl, hi, HBB⟩ := hrel
    by_cases hlt : i < sz.length
    · obtain ⟨ad, rfl, hcell⟩ := Kd.at_int (Kd.C_below hrs hbW) (i : Int) (by omega) (by omega)
      have hlt2 : ((i : Int) < (sz.length : Int)) = True := eq_true (by omega)
      rw [Int.toNat_natCast] at hcell
      have hbb : (bb && decide (rd sz (i : Int) ≤ 0)) = whl (sz.take (i + 1)) := by
        rw [HBB.out, List.take_succ_eq_append_getElem hlt, rd_get hlt]; unfold whl; rw [List.all_append]; simp only [List.all_cons, List.all_nil, Bool.and_true]
      have HBN := Lib.hid hbb
      clear hbb
      generalize rd sz (i : Int) = x at *
      cases bb with
      | false =>
        go_wp2_with (fail)
        refine ⟨⟨false, i + 1, rfl, by simp, by omega, Lib.hid HBN.out⟩, by simp [intV]; omega⟩
      | true =>
        go_wp2_with (fail)
        refine ⟨⟨_, i + 1, rfl, by simp, by omega, Lib.hid (by rw [← HBN.out]; rfl)⟩, by simp [intV]; omega⟩
    · have hie : i = sz.length := by omega
      subst hie
      have hbv := HBB.out
      rw [List.take_length] at hbv
      subst hbv
      clear hlt hi HBB
      have hlt2 : ((sz.length : Int) < (sz.length : Int)) = False := eq_false (by omega)
      go_wp2_with (fail)
      clear hlt2
      go_loopw [7] (fun t wr => ChkR w0 Bb Bs sz l L J W t wr) (fun t _ => L.length - (intV t).toNat)
      case atStart => exact ⟨0, l, A, c, W, [], L, 13000, rfl, rfl, rfl, hL, HJ.out.2.2, hc, Nat.le_refl _, hr, HJ.out.1, Stab.refl _ _ _, Keep.refl _ _⟩
      case round =>
        obtain ⟨i, rest, Ar, cr, W0, dn, Lr, fu, rfl, hdn, hLd, hch, hBr, hrc, hrl, hCr, hJ, hst, hk⟩ := hrel
        have hcB := hBr.cell
        have hfB := hBr.frozen
        have hbs : Boxed wr Bs 29 (.slice As sz.length cs) := hk.same _ _ HBS.out (.inr rfl)
        have hcS := hbs.cell
        clear hbs
        have hbr : Below w0.heap.size w0 wr := HJ.out.2.1.trans ((hk.mono (fun b h => .inl h)).to_below HJ.out.2.1.size)
        have hil : i ≤ L.length := by rw [hLd, List.length_append]; omega
        have hLl := chs_len _ _ _ _ _ hL
        have HR := Lib.hid (And.intro hdn (And.intro hLd (And.intro hBr (And.intro hCr (And.intro hJ (And.intro hst (And.intro hk hbr)))))))
        clear hdn hLd hBr hCr hJ hst hk hbr
        cases hr0 : rest with
        | nil =>
          subst hr0
          obtain rfl := chs_nil hch
          clear hch
          go_wp2_with (fail)
          go_end0
          have hiL : i = L.length := by rw [HR.out.2.1, List.append_nil, HR.out.1]
          exact ⟨⟨_, rfl⟩, (fun x => x = Bb), (fun x => x = Bb), W0, i, rfl, fun _ h => .inl h, HR.out.2.2.2.2.2.1, .inl ⟨hiL, HR.out.2.2.2.2.1, trivial⟩⟩
        | cons y ys =>
          have hne : rest ≠ [] := by rw [hr0]; simp
          have hpos : 0 < rest.length := List.length_pos_iff.2 hne
          have hp2 : (0 < (rest.length : Int)) = True := eq_true (by omega)
          clear hr0 y ys
          obtain ⟨g, L', rfl, rfl, hch'⟩ := chs_cons hch hne
          clear hch
          have hnl := nxt_le sz i rest.length
          have hseg : L[i]? = some (rest.take (nxt sz i rest.length)) := by
            rw [HR.out.2.1, List.getElem?_append_right (by rw [HR.out.1]; exact Nat.le_refl _), HR.out.1, Nat.sub_self]; rfl
          have hiL : i < L.length := (List.getElem?_eq_some_iff.1 hseg).1
          have hnx : nxt sz i rest.length = if whl sz = true then rest.length else min rest.length (rd sz ((i % sz.length : Nat) : Int)).toNat := rfl
          generalize nxt sz i rest.length = n at *
          cases hw : whl sz with
          | true =>
            rw [hw, if_pos rfl] at hnx
            subst hnx
            go_upto_region 12 with (fail)
            have hcBa : (wr.alloc (.cells #[] 5)).cell? ⟨Bb, 0, none⟩ = some (.slice Ar rest.length cr) := cell_al hcB _
            have hCp : (Kd.int .u8).C (wr.alloc (.cells #[] 5)) Ar (rest.length) (rest.take (rest.length)) := Kd.C_alloc ( (C_take (m := rest.length) (Kd.C_below HR.out.2.2.2.1 HR.out.2.2.2.2.2.2.2) hnl)) _
            obtain ⟨v1, w1, hrun, hR1, hg1, hat1⟩ := run_app_row (P := Try.prog) (t := 22) (e := 5) (ty := 22) (c := rest.length) .u8 Try.underlying22 infoB5 (by decide) (R_empty (Kd.int .u8) 5 (wr) (wr).heap.size (Nat.le_refl _) (fun _ => True) trivial) hCp (fun _ _ => trivial) (by simp) (by simp; omega)
            rw [List.nil_append] at hR1
            have hb1 : Below wr.heap.size wr w1 := ((Below.refl _ wr).alloc (Nat.le_refl _) _).grown hg1 (by simp) (fun k e => by cases e; exact Nat.le_refl _)
            have hbw1 : Boxed w1 Bb 22 (.slice Ar rest.length cr) := (hb1.block _ HR.out.2.2.1.lt).trans HR.out.2.2.1
            obtain ⟨fn, tmps, assign, body, hy, hRd⟩ := HY.out i (fun x => x = Bb) (fun x => x = Bb) W0 w1 #[v1] hiL HR.out.2.2.2.2.1 rfl (fun _ h => .inl h) (fun b h => by rw [h]; exact hbw1.lt) (HR.out.2.2.2.2.2.1.trans (Stab.of_below (T := fun x => x = Bb) hb1) (fun _ h => .inl h)) ⟨_, v1, hseg, rfl, Kd.R_lower hR1 HR.out.2.2.2.2.2.1.size⟩
            have HR1 := Lib.hid hRd
            have HB1 := Lib.hid hb1
            have hncr : (rest.length ≤ cr) = True := eq_true (by omega)
            clear hR1 hg1 hRd hb1 hCp hat1
            refine (wpIn_wide (n := 5)).1 ?_
            gi_wp2_with (gi_at_builtin; refine runIn_app _ _ _ (by kernel_rfl) rfl hrun ?_)
            refine (HR1.out _).mono ?_
            rintro e W3 (⟨rfl, hJ3, hk3⟩ | ⟨rfl, hJ3, hk3⟩)
            · have hb3 : Boxed W3 Bb 22 (.slice Ar rest.length cr) := hk3.same _ _ hbw1 (.inr rfl)
              have hc3 := hb3.cell
              have hf3 := hb3.frozen
              have hKK : Keep (fun b => b < w0.heap.size ∨ b = Bs) W W3 := (HR.out.2.2.2.2.2.2.1.trans (Keep.of_below HB1.out)).trans (hk3.mono (fun b h => .inl h))
              have hnext : ∀ (Ar' : Option Addr) (cr' : Nat), rest.length - rest.length ≤ cr' → (Kd.int .u8).C w0 Ar' (rest.drop (rest.length)).length (rest.drop (rest.length)) → ChkR w0 Bb Bs sz l L J W (.int .i64 ((i : Int) + 1)) (W3.setCell ⟨Bb, 0, none⟩ (.slice Ar' (rest.length - rest.length) cr')) := by
                intro Ar' cr' h1 h2
                refine ⟨i + 1, rest.drop (rest.length), Ar', cr', W3, dn ++ [rest.take (rest.length)], L', g, by simp, by rw [List.length_append, HR.out.1]; rfl, by rw [HR.out.2.1]; simp, hch', by rw [List.length_drop]; exact hb3.set _, by rw [List.length_drop]; omega, by rw [List.length_drop]; omega, h2, hJ3, Stab.setT (T := fun x => x = Bb) (p := ⟨Bb, 0, none⟩) W3 rfl _, hKK.trans (Keep.setCell _ (by simp; omega) _)⟩
              have HNX := Lib.hid hnext
              clear hk3 hrun hnext hKK hb3 hJ3 hbw1 HR1 hcB hfB hcS
              gi_wp2_with (fail)
              have hdr := Kd.C_drop (c := cr) HR.out.2.2.2.1 hnl hrc
              by_cases hca : cr = rest.length
              · rw [if_pos hca] at hdr
                have HDR := Lib.hid (HNX.out Ar 0 (by omega) hdr)
                clear hdr HNX
                have hcc : (cr = rest.length) = True := eq_true hca
                have hcc2 : (rest.length = cr) = True := eq_true hca.symm
                go_wp2_with (fail)
                all_goals exact ⟨by have h := HDR.out; rw [Nat.sub_self] at h; exact h, by simp [intV]; omega⟩
              · rw [if_neg hca, show rest.length * (Kd.int .u8).sz = rest.length from Nat.mul_one _] at hdr
                have HDR := Lib.hid (HNX.out _ (cr - rest.length) (by omega) hdr)
                have hcc : (cr = rest.length) = False := eq_false hca
                have hca1 : (rest.length = cr) = False := eq_false (fun e => hca e.symm)
                clear hdr HNX
                go_wp2_with (fail)
                all_goals exact ⟨by have h := HDR.out; rw [Nat.sub_self] at h; exact h, by simp [intV]; omega⟩
            · clear hrun
              gi_wp2_with (fail)
              go_wp2_with (fail)
              refine bodyPost_ret (results_none rfl _ _ _) rfl ?_
              exact ⟨⟨_, rfl⟩, (fun x => x = Bb), (fun x => x = Bb), W3, i, rfl, fun _ h => .inl h, Stab.refl _ _ _, .inr ⟨hiL, hJ3, trivial⟩⟩
          | false =>
            rw [hw, if_neg (by simp)] at hnx
            obtain ⟨j, hj, _⟩ := whl_pos sz hw
            have hk0 : 0 < sz.length := by omega
            have hml : i % sz.length < sz.length := Nat.mod_lt _ hk0
            obtain ⟨ad, rfl, hcell⟩ := Kd.at_int (Kd.C_below hrs HR.out.2.2.2.2.2.2.2) ((i % sz.length : Nat) : Int) (by omega) (by omega)
            rw [Int.toNat_natCast] at hcell
            have hmod : Int.tmod (i : Int) (sz.length : Int) = ((i % sz.length : Nat) : Int) := by rw [Int.tmod_eq_emod_of_nonneg (by omega)]; simp
            have hz0 : (sz.length = 0) = False := eq_false (by omega)
            have hz1 : (sz = []) = False := eq_false (fun e => by rw [e] at hk0; simp at hk0)
            have hz2 : ((sz.length : Int) == 0) = false := by simp; exact fun e => by rw [e] at hk0; simp at hk0
            have hz3 : ((sz.length : Int) = 0) = False := eq_false (by omega)
            generalize i % sz.length = q at *
            have hil2 : wrap64 (q : Int) = (q : Int) := w64n (Nat.le_trans (Nat.le_of_lt hml) (Nat.le_trans hsl (by decide)))
            have hml2 : ((q : Int) < (sz.length : Int)) = True := eq_true (Int.ofNat_lt.2 hml)
            generalize rd sz (q : Int) = x at *
            obtain ⟨Y, hY1, hY2⟩ : ∃ Y : Nat, (if x < 0 then 0 else x) = (Y : Int) ∧ Y = x.toNat := ⟨x.toNat, mx_nat x, rfl⟩
            have hmn : (if Y < rest.length then (Y : Int) else (rest.length : Int)) = (n : Int) := by rw [hnx, ← hY2]; exact mn_nat _ _
            have HNX0 := Lib.hid (And.intro hnx hY2)
            clear hnx hY2
            go_wp2_with (fail)
            refine wp_region_noPanic ?_
            go_region_law (fail)
            all_goals (
              refine NoPanic.normal ?_
              clear hmod hz0 hz1 hz2 hz3 hil2 hml2 hY1 hmn hcell hj hk0 hml HNX0
              go_upto_region 12 with (fail)
              have hcBa : (wr.alloc (.cells #[] 5)).cell? ⟨Bb, 0, none⟩ = some (.slice Ar rest.length cr) := cell_al hcB _
              have hCp : (Kd.int .u8).C (wr.drew.alloc (.cells #[] 5)) Ar (n) (rest.take (n)) := Kd.C_alloc (Kd.C_drew (C_take (m := n) (Kd.C_below HR.out.2.2.2.1 HR.out.2.2.2.2.2.2.2) hnl)) _
              obtain ⟨v1, w1, hrun, hR1, hg1, hat1⟩ := run_app_row (P := Try.prog) (t := 22) (e := 5) (ty := 22) (c := n) .u8 Try.underlying22 infoB5 (by decide) (R_empty (Kd.int .u8) 5 (wr.drew) (wr.drew).heap.size (Nat.le_refl _) (fun _ => True) trivial) hCp (fun _ _ => trivial) (by simp) (by simp; omega)
              rw [List.nil_append] at hR1
              have hb1 : Below wr.heap.size wr w1 := (((Below.refl _ wr).drew).alloc (Nat.le_refl _) _).grown hg1 (by simp) (fun k e => by cases e; exact Nat.le_refl _)
              have hbw1 : Boxed w1 Bb 22 (.slice Ar rest.length cr) := (hb1.block _ HR.out.2.2.1.lt).trans HR.out.2.2.1
              obtain ⟨fn, tmps, assign, body, hy, hRd⟩ := HY.out i (fun x => x = Bb) (fun x => x = Bb) W0 w1 #[v1] hiL HR.out.2.2.2.2.1 rfl (fun _ h => .inl h) (fun b h => by rw [h]; exact hbw1.lt) (HR.out.2.2.2.2.2.1.trans (Stab.of_below (T := fun x => x = Bb) hb1) (fun _ h => .inl h)) ⟨_, v1, hseg, rfl, Kd.R_lower hR1 HR.out.2.2.2.2.2.1.size⟩
              have HR1 := Lib.hid hRd
              have HB1 := Lib.hid hb1
              have hncr : (n ≤ cr) = True := eq_true (by omega)
              clear hR1 hg1 hRd hb1 hCp hat1
              refine (wpIn_wide (n := 5)).1 ?_
              gi_wp2_with (gi_at_builtin; refine runIn_app _ _ _ (by kernel_rfl) rfl hrun ?_)
              refine (HR1.out _).mono ?_
              rintro e W3 (⟨rfl, hJ3, hk3⟩ | ⟨rfl, hJ3, hk3⟩)
              · have hb3 : Boxed W3 Bb 22 (.slice Ar rest.length cr) := hk3.same _ _ hbw1 (.inr rfl)
                have hc3 := hb3.cell
                have hf3 := hb3.frozen
                have hKK : Keep (fun b => b < w0.heap.size ∨ b = Bs) W W3 := (HR.out.2.2.2.2.2.2.1.trans (Keep.of_below HB1.out)).trans (hk3.mono (fun b h => .inl h))
                have hnext : ∀ (Ar' : Option Addr) (cr' : Nat), rest.length - n ≤ cr' → (Kd.int .u8).C w0 Ar' (rest.drop (n)).length (rest.drop (n)) → ChkR w0 Bb Bs sz l L J W (.int .i64 ((i : Int) + 1)) (W3.setCell ⟨Bb, 0, none⟩ (.slice Ar' (rest.length - n) cr')) := by
                  intro Ar' cr' h1 h2
                  refine ⟨i + 1, rest.drop (n), Ar', cr', W3, dn ++ [rest.take (n)], L', g, by simp, by rw [List.length_append, HR.out.1]; rfl, by rw [HR.out.2.1]; simp, hch', by rw [List.length_drop]; exact hb3.set _, by rw [List.length_drop]; omega, by rw [List.length_drop]; omega, h2, hJ3, Stab.setT (T := fun x => x = Bb) (p := ⟨Bb, 0, none⟩) W3 rfl _, hKK.trans (Keep.setCell _ (by simp; omega) _)⟩
                have HNX := Lib.hid hnext
                clear hk3 hrun hnext hKK hb3 hJ3 hbw1 HR1 hcB hfB hcS
                gi_wp2_with (fail)
                have hdr := Kd.C_drop (c := cr) HR.out.2.2.2.1 hnl hrc
                by_cases hca : cr = n
                · rw [if_pos hca] at hdr
                  have HDR := Lib.hid (HNX.out Ar 0 (by omega) hdr)
                  clear hdr HNX
                  have hcc : (cr = n) = True := eq_true hca
                  have hcc2 : (n = cr) = True := eq_true hca.symm
                  go_wp2_with (fail)
                  all_goals exact ⟨HDR.out, by simp [intV]; omega⟩
                · rw [if_neg hca, show n * (Kd.int .u8).sz = n from Nat.mul_one _] at hdr
                  have HDR := Lib.hid (HNX.out _ (cr - n) (by omega) hdr)
                  have hcc : (cr = n) = False := eq_false hca
                  have hca1 : (n = cr) = False := eq_false (fun e => hca e.symm)
                  clear hdr HNX
                  go_wp2_with (fail)
                  all_goals exact ⟨HDR.out, by simp [intV]; omega⟩
              · clear hrun
                gi_wp2_with (fail)
                go_wp2_with (fail)
                refine bodyPost_ret (results_none rfl _ _ _) rfl ?_
                exact ⟨⟨_, rfl⟩, (fun x => x = Bb), (fun x => x = Bb), W3, i, rfl, fun _ h => .inl h, Stab.refl _ _ _, .inr ⟨hiL, hJ3, trivial⟩⟩)
end Go.Proofs.Ytnflobldekhjbaa
