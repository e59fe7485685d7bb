/- Part 14 of the proof of TopWire: Pck, Pts, Frm, Cfr. -/
import Derived.Test.YtgdlpgakhhebeaaGreatDoorMg09
import Derived.Test.YtgdlpgakhhebeaaGreatDoorMg11
import Derived.Test.YtgdlpgakhhebeaaGreatDoorMg13
section
set_option linter.unusedVariables false
set_option linter.unusedSimpArgs false
namespace Go.Proofs.YtgdlpgakhhebeaaGreatDoor
open Go.RowKit Go.Proofs.YtgdlpgakhhebeaaGreatDoorW.PrintWords Go.Proofs.YtgdlpgakhhebeaaGreatDoorW.PrintMore
attribute [local go_sem] Oper.semAt_some
attribute [local go_sem] max2_int min2_int max_two min_two max_three min_three max_four min_four

theorem infoSB : (Tryz.prog.info? 25).map (fun i => (i.zero, i.size, i.bytes)) = some (some (.slice none 0 0), 1, 24) := by kernel_rfl
theorem wrap_one (s : List Int) (hs : s.length ≤ 1000000) : P.fence_Wrap.f 2 [s] = some ([0] ++ s ++ [0]) := by
  have h1 : P.rd_L6 [s] 0 = s := rfl
  have e1 : wrap64 (0 + 1) = 1 := by unfold wrap64; omega
  unfold P.fence_Wrap.f P.fence_Wrap.l0
  simp only [List.length_singleton, h1, e1]
  rw [if_pos (by decide), if_pos (by decide), if_pos (by decide), if_pos (by decide), Option.bind_some, if_pos (by simp; omega), Option.bind_some, if_pos (by simp; omega)]
  unfold P.fence_Wrap.l0
  rw [if_neg (by decide)]
  rfl

set_option maxRecDepth 100000 in
set_option maxHeartbeats 4000000 in
theorem pack_call (h : Hd) (hok : h.ok) (w : World) (cp : Addr) (k off : Nat) (T : Nat → Int) (hcp : w.cell? cp = some (.pointer (some ⟨k, off, none⟩))) (hT : Tbl w k off T) (A : Option Addr) (c : Nat) (pl : List Int) (hr : Kd.C (Kd.int .u8) w A pl.length pl) (hc : pl.length ≤ c) (hl0 : 0 < pl.length) (hl1 : pl.length ≤ 242)
    (fb : Nat) (hfb : w.heap[fb]? = some (.cells (h.frame (.slice A pl.length c)) 133)) :
    Calls Tryz.prog 45 #[.pointer (some cp), .slice (some ⟨fb, 0, none⟩) 1 1] w fun e w' => ∃ v : Value, e = .returned (.tuple #[v, .int .i64 0]) ∧ Kd.R (Kd.int .u8) 5 w' w.heap.size (fun _ => True) v ([0] ++ segm T h pl ++ [0]) ∧ Below w.heap.size w w' := by
  have hfr : ∀ x, h.frame x = #[.int .i64 h.v, .int .i64 h.k, .int .u32 h.s, .int .i64 h.i, .int .i64 h.n, x] := fun _ => rfl
  have hsg := segment_call h hok
  obtain ⟨m, hm⟩ : ∃ m, pl.length = m := ⟨_, rfl⟩
  have HR := Lib.hid hr
  have HT := Lib.hid hT
  have HCP := Lib.hid hcp
  have HM := Lib.hid hm
  have HFB := Lib.hid hfb
  have HSG := Lib.hid hsg
  rw [hm] at hc hl0 hl1 hfb
  rw [hfr] at hfb
  have HF2 := Lib.hid hfb
  clear hr hT hcp hm hsg hfb
  go_enter Tryz.func45, Tryz.ntmps45
  go_wp2_with (fail)
  refine wp_scope_straight ?_
  go_wp2_with (fail)
  go_step3
  go_wp2_with (fail)
  go_loopw [6, 7, 16] (fun o f i wr => f = .int .i64 0 ∧ ∃ n : Nat, i = .int .i64 (n : Int) ∧ n ≤ 1 ∧ Hid ((n = 0 → o = .slice none 0 0) ∧ (n = 1 → Kd.R (Kd.slice 5 (Kd.int .u8)) 25 wr w.heap.size (fun _ => True) o [segm T h pl])) ∧ Below w.heap.size w wr)
    (fun _ _ i _ => 1 - (intOf i).toNat)
  case atStart => exact ⟨rfl, 0, rfl, by omega, Lib.hid ⟨fun _ => rfl, fun h => absurd h (by omega)⟩, Below.refl _ _⟩
  case round =>
    obtain ⟨rfl, n, rfl, hn, HO, hb⟩ := hrel
    by_cases h0 : n = 0
    · subst h0
      have hfbl : fb < w.heap.size := (Array.getElem?_eq_some_iff.1 HF2.out).1
      have hfw := (hb.block fb hfbl).trans HF2.out
      have c0 : wr.cell? ⟨fb, 0, none⟩ = some (.int .i64 h.v) := cell_at hfw rfl
      have c1 : wr.cell? ⟨fb, 1, none⟩ = some (.int .i64 h.k) := cell_at hfw rfl
      have c2 : wr.cell? ⟨fb, 2, none⟩ = some (.int .u32 h.s) := cell_at hfw rfl
      have c3 : wr.cell? ⟨fb, 3, none⟩ = some (.int .i64 h.i) := cell_at hfw rfl
      have c4 : wr.cell? ⟨fb, 4, none⟩ = some (.int .i64 h.n) := cell_at hfw rfl
      have c5 : wr.cell? ⟨fb, 5, none⟩ = some (.slice A m c) := cell_at hfw rfl
      obtain rfl := HO.out.1 rfl
      have HB := Lib.hid hb
      clear hfw HO hb
      go_wp2_with (fail)
      have bA : Below wr.heap.size wr (wr.alloc (.cells #[.int .i64 h.v, .int .i64 h.k, .int .u32 h.s, .int .i64 h.i, .int .i64 h.n, .slice A m c] 133)) := (Below.refl _ wr).alloc (Nat.le_refl _) _
      have bA2 := HB.out.trans (bA.mono HB.out.size)
      have hs1 := HSG.out (wr.alloc (.cells #[.int .i64 h.v, .int .i64 h.k, .int .u32 h.s, .int .i64 h.i, .int .i64 h.n, .slice A m c] 133)) cp k off T (Below_cell bA2 HCP.out) (HT.out.below bA2) A c pl (Kd.C_below HR.out bA2) (by rw [HM.out]; exact hc) (by rw [HM.out]; exact hl0) (by rw [HM.out]; exact hl1)
      rw [hfr, HM.out] at hs1
      refine hs1.mono ?_
      rintro e w2 ⟨v1, rfl, hR1, hb1⟩
      have bW2 : Below w.heap.size w w2 := bA2.trans (hb1.mono bA2.size)
      have hOn : Kd.R (Kd.slice 5 (Kd.int .u8)) 25 w2 w.heap.size (fun _ => True) (.slice none 0 0) [] := Kd.R_nil _ _ _ _ _
      obtain ⟨A1, d1, rfl⟩ := Kd.R_slice hR1
      obtain ⟨v2, w3, hrun, hR2, hg2, _⟩ := run_app_one (P := Tryz.prog) (W := w2) (t := 59) (e := 25) (ty := 59) (ok := fun _ => True) (okp := fun _ => True) (p := segm T h pl) (cs := [.slice A1 (segm T h pl).length d1]) (Kd.slice 5 (Kd.int .u8)) Tryz.underlying59 infoSB rfl (by decide) (by decide) hOn ⟨_, rfl, Kd.R_lower hR1 bA2.size⟩ (fun _ _ => ⟨trivial, by simp [Value.ownBlock]⟩) (fun _ _ => trivial) bW2.size (by simp)
      have bW3 : Below w.heap.size w w3 := bW2.grown hg2 bW2.size (fun q e => Kd.R_base hOn q e)
      have HW3 := Lib.hid (And.intro bW3 hR2)
      obtain ⟨sl, hsl⟩ : ∃ sl, (segm T h pl).length = sl := ⟨_, rfl⟩
      rw [hsl] at hrun
      rw [hsl]
      clear hs1 hR1 hb1 bW2 hOn bA bA2 c0 c1 c2 c3 c4 c5 hR2 hg2 bW3 hsl
      go_wp2_with (at_builtin; refine run_app (.tmp 29) (.tmp 31) 59 rfl rfl hrun ?_)
      exact ⟨⟨rfl, 1, rfl, by omega, Lib.hid ⟨fun h => absurd h (by omega), fun _ => HW3.out.2⟩, HW3.out.1⟩, by simp [intOf]⟩
    · obtain rfl : n = 1 := by omega
      have hR := HO.out.2 rfl
      obtain ⟨A1, c1, e1, hc1, hCs⟩ := Kd.R_reads hR
      subst e1
      have hsl : (segm T h pl).length ≤ 1000000 := by rw [segm_len T h pl (by rw [HM.out]; exact hl1), HM.out]; omega
      have hwr := P.fence_Wrap.calls 2 A1 c1 [segm T h pl] _ wr hCs hc1 (wrap_one _ hsl)
      have HB := Lib.hid hb
      have HWR := Lib.hid hwr
      clear hwr hsl hCs hR HO hb h0
      go_wp2_with (fail)
      refine HWR.out.mono ?_
      rintro e w2 ⟨v1, rfl, hR1, hb1⟩
      have HFIN := Lib.hid (And.intro (Kd.R_lower hR1 HB.out.size) (HB.out.trans (hb1.mono HB.out.size)))
      clear hR1 hb1
      go_wp2_with (fail)
      rw [Exit.noGoto_ret]
      exact bodyPost_ret (v := .tuple #[v1, .int .i64 0]) (by simp [results, Tryz.results45, go_sem]) rfl ⟨_, rfl, HFIN.out.1, HFIN.out.2⟩
end Go.Proofs.YtgdlpgakhhebeaaGreatDoor
end
section
set_option linter.unusedVariables false
set_option linter.unusedSimpArgs false
namespace Go.Proofs.YtgdlpgakhhebeaaGreatDoor
open Go.RowKit Go.Proofs.YtgdlpgakhhebeaaGreatDoorW.PrintWords Go.Proofs.YtgdlpgakhhebeaaGreatDoorW.PrintMore
attribute [local go_sem] Oper.semAt_some
attribute [local go_sem] max2_int min2_int max_two min_two max_three min_three max_four min_four

theorem mn_nat' (Y l : Nat) : (if l < Y then (l : Int) else (Y : Int)) = ((min l Y : Nat) : Int) := by split <;> omega
def intV : Value → Int
  | .int _ n => n
  | _ => 0
theorem Stab.setT {T : Nat → Prop} {n : Nat} (W : World) {p : Addr} (hT : T p.block) (v : Value) : Stab T n W (W.setCell p v) :=
  ⟨rfl, rfl, rfl, (KeepsWalks.setCell W p v).size, fun k o hk hn _ => (Below.heap_setCell W p v k (fun e => hn (by rw [e]; exact hT))).trans hk⟩
/-- The iterator writes the block b alone. -/
def IsB (b : Nat) (T : Nat → Prop) : Prop := T = fun x => x = b
/-- Bytes in parts. -/
def ptf : Nat → Nat → List Int → List (List Int)
  | 0, _, _ => []
  | f + 1, r, l => if l.length = 0 then [] else l.take (min l.length r) :: ptf f r (l.drop (min l.length r))
def PtQ (L : List (List Int)) (k : Nat) (vs : Array Value) (T : Nat → Prop) (B : Nat) (W : World) : Prop :=
  ∃ (xs : List Int) (v : Value), L[k]? = some xs ∧ vs = #[.int .i64 (k : Int), v] ∧ Kd.R (Kd.int .u8) 5 W B (fun _ => True) v xs
def PtR (w0 : World) (Bb Br : Nat) (r : Nat) (l : List Int) (L : List (List Int)) (J : Nat → (Nat → Prop) → World → Prop) (W : World) (t : Value) (wr : World) : Prop :=
  ∃ (i : Nat) (rest : List Int) (Ar : Option Addr) (cr : Nat) (W0 : World) (dn : List (List Int)) (fu : Nat), t = .int .i64 (i : Int) ∧ dn.length = i ∧ L = dn ++ ptf fu r rest ∧ rest.length ≤ fu ∧ Boxed wr Bb 25 (.slice Ar rest.length cr) ∧ rest.length ≤ cr ∧ rest.length ≤ l.length ∧ (Kd.int .u8).C w0 Ar rest.length rest ∧ J i (fun x => x = Bb) W0 ∧ Stab (fun x => x = Bb) W0.heap.size W0 wr ∧ Keep (fun b => b < w0.heap.size ∨ b = Br) W wr ∧ i + rest.length ≤ l.length

set_option maxRecDepth 100000 in
set_option maxHeartbeats 4000000 in
theorem parts1 (w0 w : World) (Bb Br : Nat) (A : Option Addr) (c : Nat) (l : List Int) (r : Nat) (hr1 : 1 ≤ r) (hr2 : r ≤ 1000000) (hB : Boxed w Bb 25 (.slice A l.length c)) (hS : Boxed w Br 3 (.int .i64 (r : Int))) (hBs : Br ≠ Bb) (hBl : w0.heap.size ≤ Bb) (hc : l.length ≤ c) (hr : Kd.C (Kd.int .u8) w0 A l.length l) (hlen : l.length ≤ 1000000) (hb : Below w0.heap.size w0 w) :
    Iter Tryz.prog 188 #[.pointer (some ⟨Bb, 0, none⟩), .pointer (some ⟨Br, 0, none⟩)] (ptf l.length r l).length (IsB Bb) (fun b => b < w0.heap.size ∨ b = Br) (fun x => x = Bb) (PtQ (ptf l.length r l)) (fun _ _ _ _ => True) w := by
  intro l' J Jx W hW hY h0
  have bB : Boxed W Bb 25 (.slice A l.length c) := hW.same _ _ hB (.inr rfl)
  have bS : Boxed W Br 3 (.int .i64 (r : Int)) := hW.same _ _ hS (.inl (.inr rfl))
  have hbW : Below w0.heap.size w0 W := hb.trans ((hW.mono (fun b h => .inl (.inl h))).to_below hb.size)
  have HY := Lib.hid hY
  have HJ := Lib.hid (And.intro h0 (And.intro hbW bB))
  have HBS := Lib.hid bS
  obtain ⟨L, hL⟩ : ∃ L, ptf l.length r l = L := ⟨_, rfl⟩
  rw [hL] at HY ⊢
  clear hY h0 hB hS bB bS
  show Calls Tryz.prog 188 #[.func (.yield l') #[] #[], .pointer (some ⟨Bb, 0, none⟩), .pointer (some ⟨Br, 0, none⟩)] W _
  go_enter Tryz.func188, Tryz.ntmps188
  go_wp2_with (fail)
  go_loopw [4] (fun t wr => PtR w0 Bb Br r l L J W t wr) (fun t _ => l.length + 1 - (intV t).toNat)
  case atStart => exact ⟨0, l, A, c, W, [], l.length, rfl, rfl, by rw [hL]; rfl, Nat.le_refl _, HJ.out.2.2, hc, Nat.le_refl _, hr, HJ.out.1, Stab.refl _ _ _, Keep.refl _ _, by omega⟩
  case round =>
    obtain ⟨i, rest, Ar, cr, W0, dn, fu, rfl, hdn, hLd, hfu, hBr, hrc, hrl, hCr, hJ, hst, hk, hil⟩ := hrel
    have hcB := hBr.cell
    have hfB := hBr.frozen
    have hbs : Boxed wr Br 3 (.int .i64 (r : Int)) := hk.same _ _ HBS.out (.inr rfl)
    have hcS := hbs.cell
    clear hbs
    have hbr : Below w0.heap.size w0 wr := HJ.out.2.1.trans ((hk.mono (fun b h => .inl h)).to_below HJ.out.2.1.size)
    have HR := Lib.hid (And.intro hdn (And.intro hLd (And.intro hBr (And.intro hCr (And.intro hJ (And.intro hst (And.intro hk hbr)))))))
    clear hdn hLd hBr hCr hJ hst hk hbr
    have hrp : ((0 : Int) < (r : Int)) = True := eq_true (by omega)
    by_cases h0 : rest.length = 0
    · have hz : ((0 : Int) < (rest.length : Int)) = False := eq_false (by omega)
      go_wp2_with (fail)
      go_end0
      have hiL : i = L.length := by
        have : ptf fu r rest = [] := by cases fu <;> simp [ptf, h0]
        rw [HR.out.2.1, this, List.append_nil, HR.out.1]
      exact ⟨⟨_, rfl⟩, (fun x => x = Bb), (fun x => x = Bb), W0, i, rfl, fun _ h => .inl h, HR.out.2.2.2.2.2.1, .inl ⟨hiL, HR.out.2.2.2.2.1, trivial⟩⟩
    · have hp2 : ((0 : Int) < (rest.length : Int)) = True := eq_true (by omega)
      obtain ⟨fu, rfl⟩ : ∃ g, fu = g + 1 := ⟨fu - 1, by omega⟩
      have hpt : ptf (fu + 1) r rest = rest.take (min rest.length r) :: ptf fu r (rest.drop (min rest.length r)) := by simp [ptf, h0]
      have hmn := mn_nat' r rest.length
      obtain ⟨n, hn⟩ : ∃ n, min rest.length r = n := ⟨_, rfl⟩
      rw [hn] at hmn hpt
      have hnl : n ≤ rest.length := by omega
      have hn0 : 0 < n := by omega
      have hseg : L[i]? = some (rest.take n) := by
        rw [HR.out.2.1, hpt, List.getElem?_append_right (by rw [HR.out.1]; exact Nat.le_refl _), HR.out.1, Nat.sub_self]; rfl
      have hiL : i < L.length := (List.getElem?_eq_some_iff.1 hseg).1
      have HPT := Lib.hid (And.intro hpt hn)
      clear hpt hn h0
      go_upto_region 4 with (fail)
      have hcBa : (wr.alloc (.cells #[] 5)).cell? ⟨Bb, 0, none⟩ = some (.slice Ar rest.length cr) := cell_al hcB _
      have hCp : (Kd.int .u8).C (wr.alloc (.cells #[] 5)) Ar n (rest.take n) := Kd.C_alloc (C_take (m := n) (Kd.C_below HR.out.2.2.2.1 HR.out.2.2.2.2.2.2.2) hnl) _
      obtain ⟨v1, w1, hrun, hR1, hg1, hat1⟩ := run_app_row (P := Tryz.prog) (t := 25) (e := 5) (ty := 25) (c := n) .u8 Tryz.underlying25 infoB (by decide) (R_empty (Kd.int .u8) 5 wr wr.heap.size (Nat.le_refl _) (fun _ => True) trivial) hCp (fun _ _ => trivial) (by simp) (by simp; omega)
      rw [List.nil_append] at hR1
      have hb1 : Below wr.heap.size wr w1 := ((Below.refl _ wr).alloc (Nat.le_refl _) _).grown hg1 (by simp) (fun k e => by cases e; exact Nat.le_refl _)
      have hbw1 : Boxed w1 Bb 25 (.slice Ar rest.length cr) := (hb1.block _ HR.out.2.2.1.lt).trans HR.out.2.2.1
      obtain ⟨fn, tmps, assign, body, hy, hRd⟩ := HY.out i (fun x => x = Bb) (fun x => x = Bb) W0 w1 #[.int .i64 (i : Int), v1] hiL HR.out.2.2.2.2.1 rfl (fun _ h => .inl h) (fun b h => by rw [h]; exact hbw1.lt) (HR.out.2.2.2.2.2.1.trans (Stab.of_below (T := fun x => x = Bb) hb1) (fun _ h => .inl h)) ⟨_, v1, hseg, rfl, Kd.R_lower hR1 HR.out.2.2.2.2.2.1.size⟩
      have HR1 := Lib.hid hRd
      have HB1 := Lib.hid hb1
      have hncr : (n ≤ cr) = True := eq_true (by omega)
      clear hR1 hg1 hRd hb1 hCp hat1 hmn
      refine (wpIn_wide (n := 5)).1 ?_
      gi_wp2_with (gi_at_builtin; refine runIn_app _ _ _ (by kernel_rfl) rfl hrun ?_)
      refine (HR1.out _).mono ?_
      rintro e W3 (⟨rfl, hJ3, hk3⟩ | ⟨rfl, hJ3, hk3⟩)
      · have hb3 : Boxed W3 Bb 25 (.slice Ar rest.length cr) := hk3.same _ _ hbw1 (.inr rfl)
        have hc3 := hb3.cell
        have hf3 := hb3.frozen
        have hKK : Keep (fun b => b < w0.heap.size ∨ b = Br) W W3 := (HR.out.2.2.2.2.2.2.1.trans (Keep.of_below HB1.out)).trans (hk3.mono (fun b h => .inl h))
        have hnext : ∀ (Ar' : Option Addr) (cr' : Nat), rest.length - n ≤ cr' → (Kd.int .u8).C w0 Ar' (rest.drop n).length (rest.drop n) → PtR w0 Bb Br r l L J W (.int .i64 ((i : Int) + 1)) (W3.setCell ⟨Bb, 0, none⟩ (.slice Ar' (rest.length - n) cr')) := by
          intro Ar' cr' h1 h2
          refine ⟨i + 1, rest.drop n, Ar', cr', W3, dn ++ [rest.take n], fu, by simp, by rw [List.length_append, HR.out.1]; rfl, by rw [HR.out.2.1, HPT.out.1]; simp, by rw [List.length_drop]; omega, by rw [List.length_drop]; exact hb3.set _, by rw [List.length_drop]; omega, by rw [List.length_drop]; omega, h2, hJ3, Stab.setT (T := fun x => x = Bb) (p := ⟨Bb, 0, none⟩) W3 rfl _, hKK.trans (Keep.setCell _ (by simp; omega) _), by rw [List.length_drop]; omega⟩
        have HNX := Lib.hid hnext
        clear hk3 hrun hnext hKK hb3 hJ3 hbw1 HR1 hcB hfB hcS
        gi_wp2_with (fail)
        have hdr := Kd.C_drop (c := cr) HR.out.2.2.2.1 hnl hrc
        by_cases hca : cr = n
        · rw [if_pos hca] at hdr
          have HDR := Lib.hid (HNX.out Ar 0 (by omega) hdr)
          clear hdr HNX
          have hcc : (cr = n) = True := eq_true hca
          have hcc2 : (n = cr) = True := eq_true hca.symm
          go_wp2_with (fail)
          all_goals exact ⟨HDR.out, by simp [intV]; omega⟩
        · rw [if_neg hca, show n * (Kd.int .u8).sz = n from Nat.mul_one _] at hdr
          have HDR := Lib.hid (HNX.out _ (cr - n) (by omega) hdr)
          have hcc : (cr = n) = False := eq_false hca
          have hca1 : (n = cr) = False := eq_false (fun e => hca e.symm)
          clear hdr HNX
          go_wp2_with (fail)
          all_goals exact ⟨HDR.out, by simp [intV]; omega⟩
      · clear hrun
        gi_wp2_with (fail)
        go_wp2_with (fail)
        refine bodyPost_ret (results_none rfl _ _ _) rfl ?_
        exact ⟨⟨_, rfl⟩, (fun x => x = Bb), (fun x => x = Bb), W3, i, rfl, fun _ h => .inl h, Stab.refl _ _ _, .inr ⟨hiL, hJ3, trivial⟩⟩
end Go.Proofs.YtgdlpgakhhebeaaGreatDoor
end
section
set_option linter.unusedVariables false
set_option linter.unusedSimpArgs false
namespace Go.Proofs.YtgdlpgakhhebeaaGreatDoor
open Go.RowKit Go.Proofs.YtgdlpgakhhebeaaGreatDoorW.PrintWords Go.Proofs.YtgdlpgakhhebeaaGreatDoorW.PrintMore

/-- A frame. -/
structure Frm where
  h : Hd
  p : List Int
def z133 : Frm := ⟨⟨0, 0, 0, 0, 0⟩, []⟩
def k133 : Kd Frm := Kd.iso (Kd.pair (Kd.int .i64) (Kd.pair (Kd.int .i64) (Kd.pair (Kd.int .u32) (Kd.pair (Kd.int .i64) (Kd.pair (Kd.int .i64) (Kd.slice 5 (Kd.int .u8))))))) (fun x : Frm => (x.h.v, x.h.k, x.h.s, x.h.i, x.h.n, x.p))
theorem k133_open {w : World} {x : Frm} {cs : List Value} (h : k133.K w x cs) : ∃ A0 c0, cs = [.int .i64 x.h.v, .int .i64 x.h.k, .int .u32 x.h.s, .int .i64 x.h.i, .int .i64 x.h.n, .slice A0 x.p.length c0] ∧ x.p.length ≤ c0 ∧ (Kd.int .u8).C w A0 x.p.length x.p := by
  obtain ⟨_, _, rfl, rfl, ⟨_, _, rfl, rfl, ⟨_, _, rfl, rfl, ⟨_, _, rfl, rfl, ⟨_, _, rfl, rfl, ⟨A0, c0, rfl, l0, g0⟩⟩⟩⟩⟩⟩ := h
  exact ⟨A0, c0, rfl, l0, g0⟩
theorem k133_mkM (w : World) (base : Nat) (ok : Nat → Prop) (x : Frm) {v0 : Value} (g0 : (Kd.int .u8).R 5 w base ok v0 x.p) : k133.M w base ok x [.int .i64 x.h.v, .int .i64 x.h.k, .int .u32 x.h.s, .int .i64 x.h.i, .int .i64 x.h.n, v0] :=
  ⟨[_], [_, _, _, _, _], rfl, rfl, ⟨[_], [_, _, _, _], rfl, rfl, ⟨[_], [_, _, _], rfl, rfl, ⟨[_], [_, _], rfl, rfl, ⟨[_], [_], rfl, rfl, ⟨v0, rfl, g0⟩⟩⟩⟩⟩⟩
theorem info133 : (Tryz.prog.info? 133).map (fun i => (i.zero, i.size, i.bytes)) = some (some (.agg #[.int .i64 0, .int .i64 0, .int .u32 0, .int .i64 0, .int .i64 0, .slice none 0 0]), 6, 64) := by kernel_rfl

theorem heap_setCell_at {W : World} {b j t : Nat} {cs : Array Value} {v : Value} (h : W.heap[b]? = some (.cells cs t)) : (W.setCell ⟨b, j, none⟩ v).heap[b]? = some (.cells (cs.setIfInBounds j v) t) := by
  have hl := (Array.getElem?_eq_some_iff.1 h).1
  have e : W.heap[b] = .cells cs t := by
    have := Array.getElem?_eq_getElem hl
    rw [this] at h
    exact Option.some.inj h
  simp [World.setCell, hl, Array.getElem_modify, e]
/-- The number of parts. -/
theorem ptf_len (r : Nat) (hr : 1 ≤ r) : ∀ (f : Nat) (l : List Int), l.length ≤ f → (ptf f r l).length = (l.length + r - 1) / r
  | 0, l, h => by
    have : l.length = 0 := by omega
    simp [ptf, this]; rw [Nat.div_eq_of_lt (by omega)]
  | f + 1, l, h => by
    unfold ptf
    split
    · rename_i h0
      rw [h0]
      simp; rw [Nat.div_eq_of_lt (by omega)]
    · rename_i h0
      rw [List.length_cons, ptf_len r hr f _ (by rw [List.length_drop]; omega), List.length_drop]
      by_cases hle : l.length ≤ r
      · rw [Nat.min_eq_left hle, show l.length - l.length + r - 1 = r - 1 by omega, Nat.div_eq_of_lt (by omega)]
        rw [show l.length + r - 1 = (l.length - 1) + r by omega, Nat.add_div_right _ (by omega), Nat.div_eq_of_lt (by omega)]
      · rw [Nat.min_eq_right (by omega), show l.length + r - 1 = (l.length - r + r - 1) + r by omega, Nat.add_div_right _ (by omega)]
/-- The parts' lengths: none is empty, none is above the room. -/
theorem ptf_mem (r : Nat) (hr : 1 ≤ r) : ∀ (f : Nat) (l : List Int) (x : List Int), x ∈ ptf f r l → 0 < x.length ∧ x.length ≤ r
  | 0, l, x, h => by simp [ptf] at h
  | f + 1, l, x, h => by
    unfold ptf at h
    split at h
    · simp at h
    · rcases List.mem_cons.1 h with rfl | h
      · rw [List.length_take]; omega
      · exact ptf_mem r hr f _ x h
theorem count_val (n r : Nat) (hn : 1 ≤ n) (hn2 : n ≤ 1000000) (hr : 1 ≤ r) (hr2 : r ≤ 1000000) : P.cut_Count.f (n : Int) (r : Int) = some (((n + r - 1) / r : Nat) : Int) := by
  have e1 : wrap64 ((n : Int) - 1) = ((n - 1 : Nat) : Int) := by unfold wrap64; omega
  have e2 : Int.tdiv ((n - 1 : Nat) : Int) (r : Int) = (((n - 1) / r : Nat) : Int) := rfl
  have hle : (n - 1) / r ≤ n - 1 := Nat.div_le_self _ _
  unfold P.cut_Count.f
  rw [if_neg (by omega), if_neg (by omega), if_neg (by omega), e1, e2, show n + r - 1 = (n - 1) + r by omega, Nat.add_div_right _ (by omega)]
  generalize (n - 1) / r = q at *
  have e3 : wrap64 (q : Int) = (q : Int) := by unfold wrap64; omega
  have e4 : wrap64 ((q : Int) + 1) = ((q + 1 : Nat) : Int) := by unfold wrap64; omega
  rw [e3, e4]
end Go.Proofs.YtgdlpgakhhebeaaGreatDoor
end
section
set_option linter.unusedVariables false
set_option linter.unusedSimpArgs false
namespace Go.Proofs.YtgdlpgakhhebeaaGreatDoor
open Go.RowKit Go.Proofs.YtgdlpgakhhebeaaGreatDoorW.PrintWords Go.Proofs.YtgdlpgakhhebeaaGreatDoorW.PrintMore
attribute [local go_sem] Oper.semAt_some
attribute [local go_sem] max2_int min2_int max_two min_two max_three min_three max_four min_four

theorem frozen_at {W : World} {b j t : Nat} {cs : Array Value} (h : W.heap[b]? = some (.cells cs t)) : W.frozen? ⟨b, j, none⟩ = false := by
  simp [World.frozen?, h]
theorem parts_call (A : Option Addr) (n c : Nat) (r : Int) (w : World) : Calls Tryz.prog 130 #[.slice A n c, .int .i64 r] w fun e w' => e = .returned (.func (.func 188) #[] #[.pointer (some ⟨w.heap.size, 0, none⟩), .pointer (some ⟨w.heap.size + 1, 0, none⟩)]) ∧ (w.alloc (.cells #[.slice A n c] 25)).alloc (.cells #[.int .i64 r] 3) = w' := by
  go_enter Tryz.func130, Tryz.ntmps130
  go_wp2
  go_ret
  exact ⟨rfl, rfl⟩

/-- The frames of parts, from a place on. -/
def frs (v k s n : Int) : Nat → List (List Int) → List Frm
  | _, [] => []
  | i, p :: r => ⟨⟨v, k, s, (i : Int), n⟩, p⟩ :: frs v k s n (i + 1) r
theorem frs_get (v k s n : Int) : ∀ (L : List (List Int)) (i j : Nat) (p : List Int), L[j]? = some p → (frs v k s n i L)[j]? = some ⟨⟨v, k, s, ((i + j : Nat) : Int), n⟩, p⟩
  | [], _, _, _, h => by simp at h
  | q :: L, i, 0, p, h => by simp at h; subst h; rfl
  | q :: L, i, j + 1, p, h => by
    have := frs_get v k s n L (i + 1) j p (by simpa using h)
    simp only [frs, List.getElem?_cons_succ]
    rw [this]; congr 4; omega
theorem frs_len (v k s n : Int) : ∀ (L : List (List Int)) (i : Nat), (frs v k s n i L).length = L.length
  | [], _ => rfl
  | q :: L, i => by simp [frs, frs_len v k s n L]

/-- Between two parts. -/
def FrI (w : World) (ob : Nat) (v k s n : Int) (F : List Frm) (j : Nat) (W : World) : Prop :=
  (∃ i' : Int, W.heap[w.heap.size]? = some (.cells #[.int .i64 v, .int .i64 k, .int .u32 s, .int .i64 i', .int .i64 n] 131)) ∧ ∃ (A : Option Addr) (c : Nat) (ys : List Frm), ys = F.take j ∧ Boxed W ob 123 (.slice A ys.length c) ∧ Kd.R k133 133 W (ob + 3) (fun q => ob + 3 ≤ q) (.slice A ys.length c) ys ∧ Below w.heap.size w W ∧ ob + 3 ≤ W.heap.size
set_option maxRecDepth 100000 in
set_option maxHeartbeats 600000 in
theorem frames_call (v k s i0 n0 : Int) (hv : 1 ≤ v ∧ v ≤ 2) (hk : 1 ≤ k ∧ k ≤ 5) (w : World) (A : Option Addr) (c : Nat) (l : List Int) (r : Nat) (hr : Kd.C (Kd.int .u8) w A l.length l) (hc : l.length ≤ c) (hl : 1 ≤ l.length ∧ l.length ≤ 192) (hr1 : 1 ≤ r ∧ r ≤ 242) :
    Calls Tryz.prog 81 #[.agg #[.int .i64 v, .int .i64 k, .int .u32 s, .int .i64 i0, .int .i64 n0], .slice A l.length c, .int .i64 (r : Int)] w fun e w' => ∃ vo : Value, e = .returned (.tuple #[vo, .int .i64 0]) ∧ Kd.R k133 133 w' w.heap.size (fun _ => True) vo (frs v k s (((l.length + r - 1) / r : Nat) : Int) 0 (ptf l.length r l)) ∧ Below w.heap.size w w' := by
  obtain ⟨n, hn⟩ : ∃ n, (l.length + r - 1) / r = n := ⟨_, rfl⟩
  obtain ⟨L, hL⟩ : ∃ L, ptf l.length r l = L := ⟨_, rfl⟩
  have hLn : L.length = n := by rw [← hL, ptf_len r hr1.1 _ _ (Nat.le_refl _), hn]
  have hn1 : 1 ≤ n ∧ n ≤ 192 := by
    have h3 : (l.length + r - 1) / r ≥ 1 := Nat.div_pos (by omega) (by omega)
    refine ⟨by omega, ?_⟩
    have h5 : (l.length + r - 1) / r ≤ l.length := by
      apply Nat.div_le_of_le_mul
      obtain ⟨a, ha⟩ : ∃ a, l.length = a + 1 := ⟨l.length - 1, by omega⟩
      obtain ⟨b, hb⟩ : ∃ b, r = b + 1 := ⟨r - 1, by omega⟩
      rw [ha, hb, Nat.succ_mul, Nat.mul_succ]
      omega
    omega
  have hcv := count_val l.length r hl.1 (by omega) hr1.1 (by omega)
  rw [hn] at hcv ⊢
  rw [hL]
  have HCV := Lib.hid (P.cut_Count.calls (l.length : Int) (r : Int) (n : Int))
  have HCF := Lib.hid hcv
  have HR := Lib.hid hr
  have HLL := Lib.hid (And.intro hL hLn)
  clear hcv hr hL hLn hn
  refine (callsIn_wide (n := 5)).1 (callsIn_of_wp_marks Tryz.func81 rfl trivial ?_ rfl)
  simp only [Tryz.ntmps81, List.size_toArray, List.length_cons, List.length_nil, Nat.reduceAdd, Nat.reduceSub, Array.replicate_succ, Array.replicate_zero, List.push_toArray, List.append_toArray, List.nil_append, List.cons_append]
  refine wpIn_wide.2 ?_
  have t1 : ((l.length : Int) == 0) = false := by rw [beq_eq_false_iff_ne]; omega
  have t2 : ((192 : Int) < (l.length : Int)) = False := eq_false (by omega)
  have t3 : ((r : Int) < 1) = False := eq_false (by omega)
  have t4 : ((242 : Int) < (r : Int)) = False := eq_false (by omega)
  go_wp2_with (fail)
  refine (HCV.out _ HCF.out).mono ?_
  rintro e w2 ⟨rfl, hd2⟩
  have hb2 := hd2.below
  clear hd2
  have hb2' : Below w.heap.size w w2 := ((Below.refl _ w).alloc (Nat.le_refl _) _).trans (hb2.mono (by simp))
  have hH := (hb2.block w.heap.size (by simp)).trans (World.alloc_heap_new w (.cells #[.int .i64 v, .int .i64 k, .int .u32 s, .int .i64 i0, .int .i64 n0] 131))
  have hz2 : w.heap.size < w2.heap.size := by have := hb2.size; simp at this; omega
  have c0 : w2.cell? ⟨w.heap.size, 0, none⟩ = some (.int .i64 v) := cell_at hH rfl
  have c1 : w2.cell? ⟨w.heap.size, 1, none⟩ = some (.int .i64 k) := cell_at hH rfl
  have c2 : w2.cell? ⟨w.heap.size, 2, none⟩ = some (.int .u32 s) := cell_at hH rfl
  have c3 : w2.cell? ⟨w.heap.size, 3, none⟩ = some (.int .i64 i0) := cell_at hH rfl
  have c4 : w2.cell? ⟨w.heap.size, 4, none⟩ = some (.int .i64 n0) := cell_at hH rfl
  have f3 : w2.frozen? ⟨w.heap.size, 3, none⟩ = false := frozen_at hH
  have f4 : w2.frozen? ⟨w.heap.size, 4, none⟩ = false := frozen_at hH
  have H2 := Lib.hid (And.intro hb2' hH)
  clear hb2 hb2' hH
  go_wp2_with (fail)
  obtain ⟨w3, hw3⟩ : ∃ w3, (w2.setCell ⟨w.heap.size, 3, none⟩ (.int .i64 0)).setCell ⟨w.heap.size, 4, none⟩ (.int .i64 (n : Int)) = w3 := ⟨_, rfl⟩
  have hb3 : Below w.heap.size w w3 := by rw [← hw3]; exact (H2.out.1.setCell (p := ⟨w.heap.size, 3, none⟩) (Nat.le_refl _) _).setCell (p := ⟨w.heap.size, 4, none⟩) (Nat.le_refl _) _
  have hH3 : w3.heap[w.heap.size]? = some (.cells #[.int .i64 v, .int .i64 k, .int .u32 s, .int .i64 0, .int .i64 (n : Int)] 131) := by
    rw [← hw3]; exact heap_setCell_at (heap_setCell_at H2.out.2)
  have hz3 : w.heap.size < w3.heap.size := (Array.getElem?_eq_some_iff.1 hH3).1
  rw [hw3]
  clear hw3 c0 c1 c2 c3 c4 f3 f4 H2
  refine (headCheck_call ⟨v, k, s, 0, (n : Int)⟩ ⟨hv, hk, ⟨by show (1 : Int) ≤ (n : Int); omega, by show (n : Int) ≤ 255; omega⟩, ⟨by show (0 : Int) ≤ 0; omega, by show (0 : Int) < (n : Int); omega⟩⟩ w3).mono ?_
  rintro e w4 ⟨rfl, hb4⟩
  have hH4 := (hb4.block w.heap.size hz3).trans hH3
  have hB4 := hb3.trans (hb4.mono hb3.size)
  have hz4 : w.heap.size < w4.heap.size := Nat.lt_of_lt_of_le hz3 hb4.size
  have H4 := Lib.hid (And.intro hB4 (And.intro hH4 hz4))
  clear hb3 hb4 hH3 hH4 hB4 hz2 hz3 hz4
  go_wp2_with (fail)
  refine (parts_call _ _ _ _ _).mono ?_
  rintro e wY ⟨rfl, rfl⟩
  go_wp2_with (fail)
  obtain ⟨ob, hob⟩ : ∃ ob, w4.heap.size = ob := ⟨_, rfl⟩
  obtain ⟨Y, hY⟩ : ∃ Y, (((w4.alloc (.cells #[.slice none 0 0] 123)).alloc (.cells #[.slice A l.length c] 25)).alloc (.cells #[.int .i64 (r : Int)] 3)) = Y := ⟨_, rfl⟩
  have hsY : Y.heap.size = ob + 3 := by rw [← hY, ← hob]; simp
  have hbY : Below w4.heap.size w4 Y := by rw [← hY]; exact (((Below.refl _ w4).alloc (Nat.le_refl _) _).alloc (by simp) _).alloc (by simp; omega) _
  have bO : Boxed Y ob 123 (.slice none 0 0) := by rw [← hY, ← hob]; exact ((Boxed.new w4 123 _).alloc _).alloc _
  have bB : Boxed Y (ob + 1) 25 (.slice A l.length c) := by rw [← hY, ← hob]; have := (Boxed.new (w4.alloc (.cells #[.slice none 0 0] 123)) 25 (.slice A l.length c)).alloc (.cells #[.int .i64 (r : Int)] 3); rwa [World.size_alloc] at this
  have bR : Boxed Y (ob + 2) 3 (.int .i64 (r : Int)) := by rw [← hY, ← hob]; have := Boxed.new ((w4.alloc (.cells #[.slice none 0 0] 123)).alloc (.cells #[.slice A l.length c] 25)) 3 (.int .i64 (r : Int)); simpa using this
  have hH := (hbY.block w.heap.size H4.out.2.2).trans H4.out.2.1
  have hhb : w.heap.size < ob := by rw [← hob]; exact H4.out.2.2
  have hbw : Below w.heap.size w Y := H4.out.1.trans (hbY.mono H4.out.1.size)
  rw [hY, hob]
  clear hY hob hbY H4
  refine wp_range (gf := 188) (lb := #[.pointer (some ⟨ob + 1, 0, none⟩), .pointer (some ⟨ob + 2, 0, none⟩)]) rfl (enters_of Tryz.func188 (by kernel_rfl) rfl)
    (parts1 w Y (ob + 1) (ob + 2) A c l r hr1.1 (by omega) bB bR (by omega) (by omega) hc HR.out (by omega) hbw) rfl (fun b hb => by rcases hb with hb | hb <;> omega) (fun b hb => by omega) (fun k vs T B W h => by obtain ⟨_, _, _, rfl, _⟩ := h; rfl) (fun _ _ _ _ _ _ _ => trivial)
    (fun j T W => FrI w ob v k s (n : Int) (frs v k s (n : Int) 0 L) j W) (fun _ _ _ _ => False) ?hI (fun _ _ _ _ _ _ _ _ h _ _ => h.elim) ?h0 ?round ?done ?stop
  case hI =>
    rintro j T T' W W' hT hT' ⟨⟨i', h1⟩, A, c, ys, hy, h2, h3, h4, h5⟩ hs _
    subst hT
    exact ⟨⟨i', hs.same _ _ h1 (fun h => by have h : w.heap.size = ob + 1 := h; omega) (.inl rfl)⟩, A, c, ys, hy, boxed_stab h2 hs (fun h => by have h : ob = ob + 1 := h; omega), R_stab h3 hs (fun k hk h => by have h : k = ob + 1 := h; omega), hs.below h4 (by omega) h4.size (fun b hb h => by have h : b = ob + 1 := h; omega), Nat.le_trans h5 hs.size⟩
  case h0 => exact ⟨⟨0, hH⟩, none, 0, [], rfl, bO, Kd.R_nil _ _ _ _ _, hbw, by omega⟩
  case round =>
    rintro lp nn j T T1 W0 X vs hj hAT hAT1 ⟨⟨i', h1⟩, A1, c1, ys, hy, h2, h3, h4, h5⟩ hT1 hst ⟨xs, v2, hseg, rfl, hR⟩ hRb
    subst hAT hAT1
    obtain ⟨A2, c2, rfl⟩ := Kd.R_slice hR
    have hyl : ys.length ≤ 192 := by rw [hy, List.length_take]; rw [frs_len]; have := HLL.out.2; omega
    have hjl : ((ptf l.length r l)[j]? = some xs) := hseg
    rw [HLL.out.1] at hjl
    have hjn : j < 192 := by have := (List.getElem?_eq_some_iff.1 hjl).1; have := HLL.out.2; omega
    have HY := Lib.hid (And.intro hy hjl)
    clear hy hseg hjl
    rw [hsY] at hst
    gi_wp2
    refine ⟨Below.refl _ _, fun W2 hs => ?_⟩
    have hs02 := hst.trans hs (fun b h => h.elim)
    have hH2 := hs02.same _ _ h1 (fun h => by have h : w.heap.size = ob + 1 := h; omega) (.inl rfl)
    have b2 := boxed_stab h2 hs02 (fun h => by have h : ob = ob + 1 := h; omega)
    have R1 := R_stab h3 hs02 (fun k hk h => by have h : k = ob + 1 := h; omega)
    have R2 := R_stab hR hs (fun _ _ h => h)
    have hB4 : Below w.heap.size w W2 := hs02.below h4 (by omega) h4.size (fun b hb h => by have h : b = ob + 1 := h; omega)
    have hz4 : ob + 3 ≤ W0.heap.size := h5
    have hsz : W0.heap.size ≤ W2.heap.size := hs02.size
    have hlt : ∀ q, (Value.slice A1 ys.length c1).ownBlock = some q → q < W0.heap.size := fun q e => Kd.R_lt h3 q e
    clear h1 h2 h3 h4 h5 hst hs hs02 hR
    have c0 : W2.cell? ⟨w.heap.size, 0, none⟩ = some (.int .i64 v) := cell_at hH2 rfl
    have c1' : W2.cell? ⟨w.heap.size, 1, none⟩ = some (.int .i64 k) := cell_at hH2 rfl
    have c2' : W2.cell? ⟨w.heap.size, 2, none⟩ = some (.int .u32 s) := cell_at hH2 rfl
    have c3 : W2.cell? ⟨w.heap.size, 3, none⟩ = some (.int .i64 i') := cell_at hH2 rfl
    have c4 : W2.cell? ⟨w.heap.size, 4, none⟩ = some (.int .i64 (n : Int)) := cell_at hH2 rfl
    have f3 : W2.frozen? ⟨w.heap.size, 3, none⟩ = false := frozen_at hH2
    have cO := b2.cell
    have fO := b2.frozen
    obtain ⟨W3, hW3⟩ : ∃ W3, W2.setCell ⟨w.heap.size, 3, none⟩ (.int .i64 (j : Int)) = W3 := ⟨_, rfl⟩
    have s3 : Stab (fun b => b = w.heap.size) 0 W2 W3 := by rw [← hW3]; exact Stab.setT (T := fun b => b = w.heap.size) (p := ⟨w.heap.size, 3, none⟩) W2 rfl _
    have hH3 : W3.heap[w.heap.size]? = some (.cells #[.int .i64 v, .int .i64 k, .int .u32 s, .int .i64 (j : Int), .int .i64 (n : Int)] 131) := by rw [← hW3]; exact heap_setCell_at hH2
    have hB5 : Below w.heap.size w W3 := by rw [← hW3]; exact hB4.setCell (p := ⟨w.heap.size, 3, none⟩) (Nat.le_refl _) _
    have R1' := R_stab R1 s3 (fun q hq h => by have h : q = w.heap.size := h; omega)
    have R2' := R_stab (Kd.R_mono (Kd.R_bound R2) (ok' := fun q => W0.heap.size ≤ q) (fun q hq => hq.2.1)) s3 (fun q hq h => by have h : q = w.heap.size := h; omega)
    have b3 := boxed_stab b2 s3 (fun h => by have h : ob = w.heap.size := h; omega)
    have hz3 : W2.heap.size ≤ W3.heap.size := s3.size
    obtain ⟨v5, w5, hrun, R5, g5, at5⟩ := run_app_one (P := Tryz.prog) (W := W3) (base := ob + 3) (t := 123) (e := 133) (ty := 123) (ok := fun q => ob + 3 ≤ q) (okp := fun q => W0.heap.size ≤ q) (p := (⟨⟨v, k, s, (j : Int), (n : Int)⟩, xs⟩ : Frm)) (cs := [.int .i64 v, .int .i64 k, .int .u32 s, .int .i64 (j : Int), .int .i64 (n : Int), .slice A2 xs.length c2]) k133 Tryz.underlying123 info133 rfl (by decide) (by decide) R1' (k133_mkM _ _ _ _ (Kd.R_lower R2' hz4)) (fun q hq => ⟨by omega, fun e => by have := hlt q e.symm; omega⟩) (fun q hq => by omega) (by omega) (by omega)
    obtain ⟨A5, c5, ev5⟩ := Kd.R_slice R5
    rw [List.length_append, List.length_singleton] at ev5
    subst ev5
    have hB6 : Below w.heap.size w w5 := hB5.grown g5 hB5.size (fun q e => by have := Kd.R_base R1' q e; omega)
    have b5 := boxed_app b3 g5 (fun q e => by have := Kd.R_base R1' q e; omega)
    have hH5 : w5.heap[w.heap.size]? = some (.cells #[.int .i64 v, .int .i64 k, .int .u32 s, .int .i64 (j : Int), .int .i64 (n : Int)] 131) := (g5.block _ (Array.getElem?_eq_some_iff.1 hH3).1 (fun e => by have := Kd.R_base R1' _ e.symm; omega)).trans hH3
    have cO5 := b5.cell
    have fO5 := b5.frozen
    have hK : Keep (fun b => (b < w.heap.size ∨ b = ob + 2) ∨ b = ob + 1) W2 W3 := by rw [← hW3]; exact Keep.setCell (p := ⟨w.heap.size, 3, none⟩) W2 (by show ¬ ((w.heap.size < w.heap.size ∨ w.heap.size = ob + 2) ∨ w.heap.size = ob + 1); omega) _
    have hK5 : Keep (fun b => (b < w.heap.size ∨ b = ob + 2) ∨ b = ob + 1) W3 w5 := Keep.grown g5 (fun q e => by have := Kd.R_base R1' q e; omega)
    have hBk : Books W2 w5 := by rw [← hW3] at g5 R1'; exact (Books.setCell W2 ⟨w.heap.size, 3, none⟩ (.int .i64 (j : Int))).trans (books_row g5 (Kd.R_typed R1'))
    have HF := Lib.hid (And.intro hB6 (And.intro hH5 (And.intro R5 (And.intro b5 (And.intro (hK.trans hK5) hBk)))))
    have hz5 : ob + 3 ≤ w5.heap.size := by have := g5.size; omega
    clear hB6 hH5 R5 b5 hK hK5 hBk R1' R2' b3 g5 at5 hB5 hH3 s3 R1 R2 hB4 b2 hH2 hlt hRb hT1
    have hs3 : W3.heap.size = W2.heap.size := by rw [← hW3]; simp
    rw [hs3] at hrun
    clear hs3
    subst hW3
    gi_wp2_with (gi_at_builtin; first | (refine runIn_app _ _ _ (by kernel_rfl) rfl hrun ?_))
    obtain ⟨g1, g2, g3, g4, g5, g6⟩ := HF.out
    have s7 : Stab (fun b => b = ob) 0 w5 (w5.setCell ⟨ob, 0, none⟩ (.slice A5 (ys.length + 1) c5)) := Stab.setT (T := fun b => b = ob) (p := ⟨ob, 0, none⟩) w5 rfl _
    have e7 : (ys ++ [(⟨⟨v, k, s, (j : Int), (n : Int)⟩, xs⟩ : Frm)]).length = ys.length + 1 := by simp
    refine ⟨g5.trans (Keep.setCell (p := ⟨ob, 0, none⟩) w5 (by show ¬ ((ob < w.heap.size ∨ ob = ob + 2) ∨ ob = ob + 1); omega) _), g6.trans (Books.setCell _ _ _), ⟨(j : Int), (Below.heap_setCell w5 ⟨ob, 0, none⟩ _ w.heap.size (by show w.heap.size ≠ ob; omega)).trans g2⟩, A5, c5, ys ++ [⟨⟨v, k, s, (j : Int), (n : Int)⟩, xs⟩], ?_, by rw [e7]; exact g4.set _, by rw [e7]; exact R_stab g3 s7 (fun q hq h => by have h : q = ob := h; omega), g1.setCell (p := ⟨ob, 0, none⟩) (by show w.heap.size ≤ ob; omega) _, by have := s7.size; omega⟩
    have := frs_get v k s (n : Int) L 0 j xs HY.out.2
    rw [Nat.zero_add] at this
    rw [List.take_add_one, this, ← HY.out.1]
    rfl
  case done =>
    rintro D T W ⟨⟨i', h1⟩, A1, c1, ys, hy, h2, h3, h4, h5⟩ _ hD hd
    have hyF : ys = frs v k s (n : Int) 0 L := by
      rw [hy, List.take_of_length_le]
      rw [frs_len, HLL.out.1]; exact Nat.le_refl _
    have hcb := h2.cell
    have HH := Lib.hid (And.intro hyF (And.intro h3 (And.intro h4 (And.intro hd h5))))
    clear hy hyF h1 h2 h3 h4 h5 hd
    go_wp2_with (fail)
    obtain ⟨g1, g2, g3, g4, g5⟩ := HH.out
    have st := stab_shut (T := fun _ => False) (n := w.heap.size) g4 (by omega)
    refine marks_ret (v := .tuple #[.slice A1 ys.length c1, .int .i64 0]) (by simp [results, Tryz.results81, Act.put, go_sem]) (by simp [Act.put]) g4 ⟨_, rfl, ?_, st.below g3 (Nat.le_refl _) g3.size (fun _ _ h => h)⟩
    rw [← g1]
    exact Kd.R_lower (Kd.R_mono (R_stab g2 st (fun _ _ h => h)) (fun _ _ => trivial)) (by omega)
  case stop =>
    rintro D c k T W _ h
    exact h.elim
end Go.Proofs.YtgdlpgakhhebeaaGreatDoor
end
