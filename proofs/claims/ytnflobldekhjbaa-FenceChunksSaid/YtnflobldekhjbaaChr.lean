/- The document's parts: what they hand back. -/
import Derived.Test.YtnflobldekhjbaaChi
import Derived.Test.YtnflobldekhjbaaRw
set_option linter.unusedVariables false
set_option linter.unusedSimpArgs false
namespace Go.Proofs.Ytnflobldekhjbaa
open Go.RowKit Go.Proofs.YtnflobldekhjbaaW.PrintWords Go.Proofs.YtnflobldekhjbaaW.PrintMore
attribute [local go_sem] Oper.semAt_some
attribute [local go_sem] max2_int min2_int max_two min_two max_three min_three max_four min_four

/-- Between two rounds of the document's second loop. -/
def RchR (w : World) (sz l : List Int) (L : List (List Int)) (o t u : Value) (wr : World) : Prop :=
  ∃ (at_ i : Nat) (dn Lr : List (List Int)) (fu : Nat), t = .int .i64 (at_ : Int) ∧ u = .int .i64 (i : Int) ∧ at_ ≤ l.length ∧ dn.length = i ∧ L = dn ++ Lr ∧ chs fu sz i (l.drop at_) = some Lr ∧ RW w.heap.size wr o dn ∧ Below w.heap.size w wr

theorem whl_take {sz : List Int} {i : Nat} (h : i < sz.length) : whl (sz.take (i + 1)) = (whl (sz.take i) && decide (rd sz (i : Int) ≤ 0)) := by
  rw [List.take_succ_eq_append_getElem h, rd_get h]; unfold whl; rw [List.all_append]; simp only [List.all_cons, List.all_nil, Bool.and_true]

set_option maxRecDepth 100000 in
set_option maxHeartbeats 4000000 in
theorem refChunks_call (w : World) (A : Option Addr) (c : Nat) (l : List Int) (As : Option Addr) (cs : Nat) (sz : List Int) (L : List (List Int)) (hL : chs 13000 sz 0 l = some L) (hc : l.length ≤ c) (hcs : sz.length ≤ cs) (hr : Kd.C (Kd.int .u8) w A l.length l) (hrs : Kd.C (Kd.int .i64) w As sz.length sz) (hlen : l.length ≤ 1000000) (hsl : sz.length ≤ 1000) :
    Calls Try.prog 15 #[.slice A l.length c, .slice As sz.length cs] w fun e w' => ∃ v, e = .returned v ∧ RW w.heap.size w' v L ∧ Below w.heap.size w w' := by
  have hLl := chs_len _ _ _ _ _ hL
  have HL := Lib.hid hL
  clear hL
  go_enter Try.func15, Try.ntmps15
  go_wp2_with (fail)
  go_loop [5, 6] (fun b t => ∃ (bb : Bool) (i : Nat), b = .bool bb ∧ t = .int .i64 (i : Int) ∧ i ≤ sz.length ∧ Hid (bb = whl (sz.take i))) (fun _ t => sz.length - (intV t).toNat)
  case atStart => exact ⟨true, 0, rfl, rfl, Nat.zero_le _, Lib.hid (by simp [whl])⟩
  case round =>
    obtain ⟨bb, i, rfl, rfl, hi, HBB⟩ := hrel
    by_cases hlt : i < sz.length
    · obtain ⟨ad, rfl, hcell⟩ := Kd.at_int hrs (i : Int) (by omega) (by omega)
      have hlt2 : ((i : Int) < (sz.length : Int)) = True := eq_true (by omega)
      rw [Int.toNat_natCast] at hcell
      have hbb := whl_take hlt
      rw [← HBB.out] at hbb
      have HBN := Lib.hid hbb
      clear hbb
      generalize rd sz (i : Int) = x at *
      by_cases hx : 0 < x
      · have hx2 : (0 < x) = True := eq_true hx
        have e : (bb && decide (x ≤ 0)) = false := by rw [decide_eq_false (by omega), Bool.and_false]
        rw [e] at HBN
        clear e hx
        go_wp2_with (fail)
        refine ⟨⟨false, i + 1, rfl, by simp, by omega, Lib.hid HBN.out.symm⟩, by simp [intV]; omega⟩
      · have hx2 : (0 < x) = False := eq_false hx
        have e : (bb && decide (x ≤ 0)) = bb := by rw [decide_eq_true (by omega), Bool.and_true]
        rw [e] at HBN
        clear e hx
        go_wp2_with (fail)
        refine ⟨⟨bb, i + 1, rfl, by simp, by omega, Lib.hid HBN.out.symm⟩, by simp [intV]; omega⟩
    · have hie : i = sz.length := by omega
      subst hie
      have hbv := HBB.out
      rw [List.take_length] at hbv
      subst hbv
      clear hlt hi HBB
      have hlt2 : ((sz.length : Int) < (sz.length : Int)) = False := eq_false (by omega)
      cases hw : whl sz with
      | true =>
        by_cases hl0 : l = []
        · subst hl0
          obtain rfl := chs_nil HL.out
          go_wp2_with (fail)
          exact bodyPost_ret (v := .slice none 0 0) (by simp [results, Try.results15, go_sem]) rfl ⟨_, rfl, RW.nil _ _, Below.refl _ _⟩
        · obtain ⟨g, L', _, hLe, hch⟩ := chs_cons HL.out hl0
          rw [show nxt sz 0 l.length = l.length from if_pos hw, List.take_length] at hLe
          rw [show nxt sz 0 l.length = l.length from if_pos hw, List.drop_length] at hch
          obtain rfl := chs_nil hch
          subst hLe
          have hpos := List.length_pos_iff.2 hl0
          have hp2 : (0 < (l.length : Int)) = True := eq_true (by omega)
          obtain ⟨v1, w1, hrun, hR1, hg1, hat1⟩ := run_app_row (P := Try.prog) (t := 22) (e := 5) (ty := 22) (c := c) .u8 Try.underlying22 infoB5 (by decide) (R_empty (Kd.int .u8) 5 w w.heap.size (Nat.le_refl _) (fun _ => True) trivial) (Kd.C_alloc hr _) (fun _ _ => trivial) (by simp) (by first | (simp; done) | (simp; omega))
          rw [List.nil_append] at hR1
          obtain ⟨A1, c1, ev1⟩ := Kd.R_slice hR1
          subst ev1
          have hb1 : Below w.heap.size w w1 := ((Below.refl _ w).alloc (Nat.le_refl _) _).grown hg1 (by simp) (fun k e => by cases e; exact Nat.le_refl _)
          have hb5 := (Bytes5.of_R hR1).2
          obtain ⟨v2, w2, hr2, hS2, hg2, hat2⟩ := (RW.nil w.heap.size w1).append (A := A1) (c := c1) rfl hb5.1 hb5.2 hb1.size (by simp)
          have hb2 : Below w.heap.size w w2 := below_app hb1 hg2 hb1.size (fun k e => by simp [Value.ownBlock] at e)
          have HF := Lib.hid (And.intro hb2 hS2)
          clear hR1 hg1 hat1 hb1 hb5 hS2 hg2 hat2 hb2
          go_wp2_with (at_builtin; first | (refine run_app (.tmp 27) (.tmp 28) 22 rfl rfl hrun ?_) | (refine run_app (.tmp 26) (.tmp 30) 23 rfl rfl hr2 ?_))
          all_goals exact bodyPost_ret (v := v2) (by simp [results, Try.results15, go_sem]) rfl ⟨_, rfl, HF.out.2, HF.out.1⟩
      | false =>
        obtain ⟨j, hj, _⟩ := whl_pos sz hw
        have hk0 : 0 < sz.length := by omega
        clear hj
        go_wp2_with (fail)
        clear hlt2
        go_loopw [7, 8, 9] (fun o t u wr => RchR w sz l L o t u wr) (fun _ _ u _ => L.length - (intV u).toNat)
        case atStart => exact ⟨0, 0, [], L, 13000, rfl, rfl, Nat.zero_le _, rfl, rfl, HL.out, RW.nil _ _, Below.refl _ _⟩
        case round =>
          obtain ⟨at_, i, dn, Lr, fu, rfl, rfl, hal, hdn, hLd, hch, hRW, hb⟩ := hrel
          have hil : i ≤ L.length := by rw [hLd, List.length_append]; omega
          have hdnl : dn.length ≤ 13000 := by omega
          have HR := Lib.hid (And.intro hb (And.intro hRW (And.intro hdn (And.intro hdnl hLd))))
          clear hb hRW hdn hLd hdnl
          by_cases hat : at_ < l.length
          · have hne : l.drop at_ ≠ [] := fun e => by have := congrArg List.length e; rw [List.length_drop] at this; simp at this; omega
            obtain ⟨g, L', rfl, rfl, hch'⟩ := chs_cons hch hne
            clear hch hne
            rw [List.length_drop] at hch'
            have hLd := HR.out.2.2.2.2
            rw [List.length_drop] at hLd
            have HR2 := Lib.hid (And.intro HR.out.1 (And.intro HR.out.2.1 (And.intro HR.out.2.2.1 (And.intro HR.out.2.2.2.1 hLd))))
            clear HR
            have HR := HR2
            have hiL : i < L.length := by rw [hLd, List.length_append, HR.out.2.2.1]; simp
            clear HR2 hLd
            obtain ⟨ad, rfl⟩ : ∃ ad, A = some ad := by obtain ⟨ad, e, _⟩ := hr.2.2 (by omega); exact ⟨ad, e⟩
            have hml : i % sz.length < sz.length := Nat.mod_lt _ hk0
            obtain ⟨ads, rfl, hcell⟩ := Kd.at_int (Kd.C_below hrs HR.out.1) ((i % sz.length : Nat) : Int) (by omega) (by omega)
            rw [Int.toNat_natCast] at hcell
            have hnx : nxt sz i (l.length - at_) = min (l.length - at_) (rd sz ((i % sz.length : Nat) : Int)).toNat := by unfold nxt; rw [hw, if_neg (by simp)]
            have hmod : Int.tmod (i : Int) (sz.length : Int) = ((i % sz.length : Nat) : Int) := by rw [Int.tmod_eq_emod_of_nonneg (by omega)]; simp
            have hz0 : (sz.length = 0) = False := eq_false (by omega)
            have hz1 : (sz = []) = False := eq_false (fun e => by rw [e] at hk0; simp at hk0)
            have hz2 : ((sz.length : Int) == 0) = false := by simp; exact fun e => by rw [e] at hk0; simp at hk0
            have hz3 : ((sz.length : Int) = 0) = False := eq_false (by omega)
            have hlt1 : ((at_ : Int) < (l.length : Int)) = True := eq_true (by omega)
            have hsub : (l.length : Int) - (at_ : Int) = ((l.length - at_ : Nat) : Int) := by omega
            have hac : (c = at_) = False := eq_false (by omega)
            have hac2 : (at_ = c) = False := eq_false (by omega)
            have hca2 : (at_ ≤ c) = True := eq_true (by omega)
            generalize i % sz.length = q at *
            have hil2 : wrap64 (q : Int) = (q : Int) := w64n (Nat.le_trans (Nat.le_of_lt hml) (Nat.le_trans hsl (by decide)))
            have hml2 : ((q : Int) < (sz.length : Int)) = True := eq_true (Int.ofNat_lt.2 hml)
            generalize rd sz (q : Int) = x at *
            obtain ⟨D, hD⟩ : ∃ D, l.length - at_ = D := ⟨_, rfl⟩
            rw [hD] at hch' hsub hnx HR
            have hDc : at_ + D ≤ c := by omega
            have hDl : at_ + D = l.length := by omega
            have HMD := Lib.hid hmod
            by_cases hx : x < 0
            · have hx1 : (x < 0) = True := eq_true hx
              have hx2 : ((D : Int) < 0) = False := eq_false (by omega)
              have hn0 : nxt sz i D = 0 := by rw [hnx]; omega
              rw [hn0] at hch' HR
              clear hnx hx hn0
              have hlen : ((l.drop at_).take (0)).length = 0 := by rw [List.length_take, List.length_drop]; omega
              have hCp : (Kd.int .u8).C (wr.alloc (.cells #[] 5)) (some (ad.add at_)) (0) ((l.drop at_).take (0)) := Kd.C_alloc (C_piece (Kd.C_below hr HR.out.1) rfl at_ (0) (by omega)) _
              obtain ⟨v1, w1, hrun, hR1, hg1, hat1⟩ := run_app_row (P := Try.prog) (t := 22) (e := 5) (ty := 22) (c := c - at_) .u8 Try.underlying22 infoB5 (by decide) (R_empty (Kd.int .u8) 5 wr wr.heap.size (Nat.le_refl _) (fun _ => True) trivial) hCp (fun _ _ => trivial) (by simp) (by first | (simp; done) | (simp; omega))
              rw [List.nil_append] at hR1
              obtain ⟨A1, c1, ev1⟩ := Kd.R_slice hR1
              subst ev1
              have hb1 : Below wr.heap.size wr w1 := ((Below.refl _ wr).alloc (Nat.le_refl _) _).grown hg1 (by simp) (fun k e => by cases e; exact Nat.le_refl _)
              have hbw1 : Below w.heap.size w w1 := HR.out.1.trans (hb1.mono HR.out.1.size)
              have hb5 := (Bytes5.of_R hR1).2
              rw [hlen] at hrun hb5
              obtain ⟨v2, w2, hr2, hS2, hg2, hat2⟩ := (HR.out.2.1.below hb1).append (A := A1) (n := 0) (c := c1) hlen.symm hb5.1 hb5.2 hbw1.size (by have := HR.out.2.2.2.1; omega)
              have hb2 : Below w.heap.size w w2 := below_app hbw1 hg2 hbw1.size (HR.out.2.1.below hb1).base_
              have HF := Lib.hid (And.intro hb2 (And.intro hS2 hlen))
              clear hR1 hg1 hat1 hb1 hbw1 hb5 hS2 hg2 hat2 hb2 hCp
              go_wp2_with (at_builtin; first | (refine run_app (.tmp 59) (.tmp 65) 22 rfl rfl hrun ?_) | (refine run_app (.tmp 58) (.tmp 67) 23 rfl rfl hr2 ?_))
              all_goals (refine ⟨⟨at_ + 0, i + 1, dn ++ [(l.drop at_).take (0)], L', g, by simp, by simp, by omega, by rw [List.length_append, HR.out.2.2.1]; rfl, by rw [HR.out.2.2.2.2]; simp, by rw [← List.drop_drop]; exact hch', HF.out.2.1, HF.out.1⟩, by simp [intV]; omega⟩)
            · obtain ⟨X, rfl⟩ : ∃ X : Nat, x = (X : Int) := ⟨x.toNat, by omega⟩
              have hx1 : ((X : Int) < 0) = False := eq_false (by omega)
              by_cases hxd : D < X
              · have hx2 : ((D : Int) < (X : Int)) = True := eq_true (by omega)
                have hn0 : nxt sz i D = D := by rw [hnx]; omega
                rw [hn0] at hch' HR
                clear hnx hx hn0
                have hlen : ((l.drop at_).take (D)).length = D := by rw [List.length_take, List.length_drop]; omega
                have hCp : (Kd.int .u8).C (wr.alloc (.cells #[] 5)) (some (ad.add at_)) (D) ((l.drop at_).take (D)) := Kd.C_alloc (C_piece (Kd.C_below hr HR.out.1) rfl at_ (D) (by omega)) _
                obtain ⟨v1, w1, hrun, hR1, hg1, hat1⟩ := run_app_row (P := Try.prog) (t := 22) (e := 5) (ty := 22) (c := c - at_) .u8 Try.underlying22 infoB5 (by decide) (R_empty (Kd.int .u8) 5 wr wr.heap.size (Nat.le_refl _) (fun _ => True) trivial) hCp (fun _ _ => trivial) (by simp) (by first | (simp; done) | (simp; omega))
                rw [List.nil_append] at hR1
                obtain ⟨A1, c1, ev1⟩ := Kd.R_slice hR1
                subst ev1
                have hb1 : Below wr.heap.size wr w1 := ((Below.refl _ wr).alloc (Nat.le_refl _) _).grown hg1 (by simp) (fun k e => by cases e; exact Nat.le_refl _)
                have hbw1 : Below w.heap.size w w1 := HR.out.1.trans (hb1.mono HR.out.1.size)
                have hb5 := (Bytes5.of_R hR1).2
                rw [hlen] at hrun hb5
                have hrun := (show (Builtin.append_ #[22, 22] 22 #[.slice (some ⟨wr.heap.size, 0, none⟩) 0 0, .slice (some (ad.add at_)) (at_ + D - at_) (c - at_)]).run Try.prog (wr.alloc (.cells #[] 5)) = .ok (.slice A1 (D) c1) w1 from by rw [Nat.add_sub_cancel_left]; exact hrun)
                obtain ⟨v2, w2, hr2, hS2, hg2, hat2⟩ := (HR.out.2.1.below hb1).append (A := A1) (n := D) (c := c1) hlen.symm hb5.1 hb5.2 hbw1.size (by have := HR.out.2.2.2.1; omega)
                have hb2 : Below w.heap.size w w2 := below_app hbw1 hg2 hbw1.size (HR.out.2.1.below hb1).base_
                have HF := Lib.hid (And.intro hb2 (And.intro hS2 hlen))
                clear hR1 hg1 hat1 hb1 hbw1 hb5 hS2 hg2 hat2 hb2 hCp
                go_wp2_with (at_builtin; first | (refine run_app (.tmp 59) (.tmp 65) 22 rfl rfl hrun ?_) | (refine run_app (.tmp 58) (.tmp 67) 23 rfl rfl hr2 ?_))
                all_goals (refine ⟨⟨at_ + D, i + 1, dn ++ [(l.drop at_).take (D)], L', g, by simp, by simp, by omega, by rw [List.length_append, HR.out.2.2.1]; rfl, by rw [HR.out.2.2.2.2]; simp, by rw [← List.drop_drop]; exact hch', HF.out.2.1, HF.out.1⟩, by simp [intV]; omega⟩)
              · have hx2 : ((D : Int) < (X : Int)) = False := eq_false (by omega)
                have hn0 : nxt sz i D = X := by rw [hnx]; omega
                have hXc : at_ + X ≤ c := by omega
                have hXl : at_ + X ≤ l.length := by omega
                rw [hn0] at hch' HR
                clear hnx hx hn0
                have hlen : ((l.drop at_).take (X)).length = X := by rw [List.length_take, List.length_drop]; omega
                have hCp : (Kd.int .u8).C (wr.alloc (.cells #[] 5)) (some (ad.add at_)) (X) ((l.drop at_).take (X)) := Kd.C_alloc (C_piece (Kd.C_below hr HR.out.1) rfl at_ (X) (by omega)) _
                obtain ⟨v1, w1, hrun, hR1, hg1, hat1⟩ := run_app_row (P := Try.prog) (t := 22) (e := 5) (ty := 22) (c := c - at_) .u8 Try.underlying22 infoB5 (by decide) (R_empty (Kd.int .u8) 5 wr wr.heap.size (Nat.le_refl _) (fun _ => True) trivial) hCp (fun _ _ => trivial) (by simp) (by first | (simp; done) | (simp; omega))
                rw [List.nil_append] at hR1
                obtain ⟨A1, c1, ev1⟩ := Kd.R_slice hR1
                subst ev1
                have hb1 : Below wr.heap.size wr w1 := ((Below.refl _ wr).alloc (Nat.le_refl _) _).grown hg1 (by simp) (fun k e => by cases e; exact Nat.le_refl _)
                have hbw1 : Below w.heap.size w w1 := HR.out.1.trans (hb1.mono HR.out.1.size)
                have hb5 := (Bytes5.of_R hR1).2
                rw [hlen] at hrun hb5
                have hrun := (show (Builtin.append_ #[22, 22] 22 #[.slice (some ⟨wr.heap.size, 0, none⟩) 0 0, .slice (some (ad.add at_)) (at_ + X - at_) (c - at_)]).run Try.prog (wr.alloc (.cells #[] 5)) = .ok (.slice A1 (X) c1) w1 from by rw [Nat.add_sub_cancel_left]; exact hrun)
                obtain ⟨v2, w2, hr2, hS2, hg2, hat2⟩ := (HR.out.2.1.below hb1).append (A := A1) (n := X) (c := c1) hlen.symm hb5.1 hb5.2 hbw1.size (by have := HR.out.2.2.2.1; omega)
                have hb2 : Below w.heap.size w w2 := below_app hbw1 hg2 hbw1.size (HR.out.2.1.below hb1).base_
                have HF := Lib.hid (And.intro hb2 (And.intro hS2 hlen))
                clear hR1 hg1 hat1 hb1 hbw1 hb5 hS2 hg2 hat2 hb2 hCp
                go_wp2_with (at_builtin; first | (refine run_app (.tmp 59) (.tmp 65) 22 rfl rfl hrun ?_) | (refine run_app (.tmp 58) (.tmp 67) 23 rfl rfl hr2 ?_))
                all_goals (refine ⟨⟨at_ + X, i + 1, dn ++ [(l.drop at_).take (X)], L', g, by simp, by simp, by omega, by rw [List.length_append, HR.out.2.2.1]; rfl, by rw [HR.out.2.2.2.2]; simp, by rw [← List.drop_drop]; exact hch', HF.out.2.1, HF.out.1⟩, by simp [intV]; omega⟩)
          · have hae : at_ = l.length := by omega
            subst hae
            rw [List.drop_length] at hch
            obtain rfl := chs_nil hch
            go_wp2_with (fail)
            all_goals exact bodyPost_ret (v := u7) (by simp [results, Try.results15, go_sem]) rfl ⟨_, rfl, by rw [HR.out.2.2.2.2, List.append_nil]; exact HR.out.2.1, HR.out.1⟩
end Go.Proofs.Ytnflobldekhjbaa
