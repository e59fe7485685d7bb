/- fence.Segments: its iterator's word. -/
import Derived.Test.YtnflobldekhjbaaPlain
import Derived.Test.YtnflobldekhjbaaProg
import Derived.Outline
import Derived.Lib.Hide
import Derived.WalkMore
import Derived.LoopTactic
set_option linter.unusedVariables false
set_option linter.unusedSimpArgs false
namespace Go.Proofs.Ytnflobldekhjbaa
open Go.RowKit Go.Proofs.YtnflobldekhjbaaW.PrintWords
attribute [local go_sem] Oper.semAt_some

/-- The segments, and where they are: i bytes have been looked at, cur is what is open. -/
def sgo : Nat → List Int → List Int → List (Nat × List Int)
  | _, _, [] => []
  | i, cur, c :: r => if c = 0 then (if cur = [] then sgo (i + 1) [] r else (i - cur.length, cur) :: sgo (i + 1) [] r) else sgo (i + 1) (cur ++ [c]) r
def segs (l : List Int) : List (Nat × List Int) := sgo 0 [] l
def opn : List Int → List Int → List Int
  | cur, [] => cur
  | cur, c :: r => if c = 0 then opn [] r else opn (cur ++ [c]) r

theorem rd_get {l : List Int} {k : Nat} (h : k < l.length) : rd l (k : Int) = l[k] := by simp [rd, List.getD_eq_getElem?_getD, List.getElem?_eq_getElem h]
theorem sgo_at (l : List Int) (k : Nat) (cur : List Int) (h : k < l.length) : sgo k cur (l.drop k) = if rd l (k : Int) = 0 then (if cur = [] then sgo (k + 1) [] (l.drop (k + 1)) else (k - cur.length, cur) :: sgo (k + 1) [] (l.drop (k + 1))) else sgo (k + 1) (cur ++ [rd l (k : Int)]) (l.drop (k + 1)) := by
  rw [List.drop_eq_getElem_cons h, sgo, rd_get h]
theorem cur_at {l : List Int} {j k : Nat} (h : k < l.length) (hj : j ≤ k) : (l.take (k + 1)).drop j = (l.take k).drop j ++ [rd l (k : Int)] := by
  rw [List.take_succ_eq_append_getElem h, List.drop_append_of_le_length (by simp; omega), rd_get h]
theorem cur_len {l : List Int} {j k : Nat} (h : k < l.length) : ((l.take k).drop j).length = k - j := by simp; omega

def SegQ (l : List Int) (k : Nat) (vs : Array Value) (T : Nat → Prop) (B : Nat) (W : World) : Prop :=
  ∃ (at_ : Nat) (xs : List Int) (v : Value), (segs l)[k]? = some (at_, xs) ∧ at_ ≤ l.length ∧ vs = #[.int .i64 (at_ : Int), v] ∧ Kd.R (Kd.int .u8) 5 W B (fun _ => True) v xs

theorem SegQ.stab {l : List Int} {k : Nat} {vs : Array Value} {T : Nat → Prop} {B : Nat} {W W' : World} {n : Nat} (h : SegQ l k vs T B W) (hs : Stab (fun _ => False) n W W') : SegQ l k vs T B W' := by
  obtain ⟨at_, xs, v, h1, h2, h3, h4⟩ := h
  exact ⟨at_, xs, v, h1, h2, h3, R_stab h4 hs (fun _ _ h => h)⟩
theorem infoB : (Try.prog.info? 5).map (fun i => (i.zero, i.size, i.bytes)) = some (some (.int .u8 0), 1, 1) := by kernel_rfl

set_option maxRecDepth 100000 in
set_option maxHeartbeats 2000000 in
theorem segments1 (w0 w : World) (Bb : Nat) (A : Option Addr) (c : Nat) (l : List Int) (hB : w.cell? ⟨Bb, 0, none⟩ = some (.slice A l.length c)) (hc : l.length ≤ c) (hr : Kd.C (Kd.int .u8) w0 A l.length l) (hlen : l.length ≤ 1000000) (hb : Below w0.heap.size w0 w) :
    Iter Try.prog 17 #[.pointer (some ⟨Bb, 0, none⟩)] (segs l).length NoT (fun b => b < w0.heap.size ∨ b = Bb) (fun _ => False) (SegQ l) (fun _ _ _ _ => True) w := by
  intro l' J Jx W hW hY h0
  have hBW : W.cell? ⟨Bb, 0, none⟩ = some (.slice A l.length c) := hW.cell hB (.inl (.inr rfl))
  have HY := Lib.hid hY
  have HJ := Lib.hid h0
  clear hY h0 hB
  show Calls Try.prog 17 #[.func (.yield l') #[] #[], .pointer (some ⟨Bb, 0, none⟩)] W _
  go_enter Try.func17, Try.ntmps17
  go_wp2
  go_step3
  go_wp2
  go_step3
  go_wp2
  go_loopw [3, 8] (fun f i wr => ∃ (k j m : Nat), i = .int .i64 (k : Int) ∧ f = .int .i64 (j : Int) ∧ j ≤ k ∧ k ≤ l.length ∧ ∃ W0 dn, segs l = dn ++ sgo k ((l.take k).drop j) (l.drop k) ∧ dn.length = m ∧ J m (fun _ => False) W0 ∧ Stab (fun _ => False) W0.heap.size W0 wr ∧ Keep (fun b => b < w0.heap.size ∨ b = Bb) W wr)
    (fun _ i _ => l.length - (intOf i).toNat)
  case atStart =>
    exact ⟨0, 0, 0, rfl, rfl, Nat.le_refl _, Nat.zero_le _, W, [], by simp [segs], rfl, HJ.out, Stab.refl _ _ _, Keep.refl _ _⟩
  case round =>
    obtain ⟨k, j, m, rfl, rfl, hjk, hkl, W0, dn, hdn, hm, hJ, hst, hk⟩ := hrel
    have hbr : Below w0.heap.size w0 wr := hb.trans (((hW.mono (fun b h => .inl h)).trans hk).mono (fun b h => .inl h) |>.to_below hb.size)
    have hBr : wr.cell? ⟨Bb, 0, none⟩ = some (.slice A l.length c) := hk.cell hBW (.inr rfl)
    have HD := Lib.hid hdn
    have HM := Lib.hid hm
    have HBB := Lib.hid hbr
    clear hdn hm hBW
    by_cases hlt : k < l.length
    · obtain ⟨ad, rfl, hcell⟩ := Kd.at_int (Kd.C_below hr hbr) (k : Int) (by omega) (by omega)
      rw [Int.toNat_natCast] at hcell
      have hs := sgo_at l k ((l.take k).drop j) hlt
      have HS := Lib.hid hs
      have HC := Lib.hid (cur_at hlt hjk)
      clear hs hbr
      generalize hx : rd l (k : Int) = x at *
      have HX := Lib.hid hx
      clear hx
      by_cases h0 : x = 0
      · by_cases hj : j < k
        · have t1 : (x != 0) = false := by simp [h0]
          have t2 : decide (j < k) = true := by simp [hj]
          have t3 : decide ((j : Int) < (k : Int)) = true := by simp [hj]
          have H0 := Lib.hid h0
          clear h0
          have hC := Kd.C_below hr HBB.out
          have hBr2 := cell_al hBr (.cells #[] 5)
          have hCp : (Kd.int .u8).C (wr.alloc (.cells #[] 5)) (some (ad.add j)) (k - j) ((l.take k).drop j) := by
            rw [List.drop_take]; exact Kd.C_alloc (C_piece hC rfl j (k - j) (by omega)) _
          obtain ⟨v1, w1, hrun, hR1, hg1, hat1⟩ := run_app_row (P := Try.prog) (t := 22) (e := 5) (ty := 22) (c := k - j) .u8 Try.underlying22 infoB (by decide) (R_empty (Kd.int .u8) 5 wr wr.heap.size (Nat.le_refl _) (fun _ => True) trivial) hCp (fun _ _ => trivial) (by simp) (by simp; omega)
          clear hC hCp hat1
          have hb1 : Below wr.heap.size wr w1 := ((Below.refl _ wr).alloc (Nat.le_refl _) _).grown hg1 (by simp) (fun k e => by simp [Value.ownBlock] at e; omega)
          have hseg : (segs l)[m]? = some (j, (l.take k).drop j) := by
            rw [HD.out, HS.out, if_pos H0.out, if_neg (fun e => by have := cur_len (j := j) hlt; rw [e] at this; simp at this; omega), List.getElem?_append_right (by rw [HM.out]; exact Nat.le_refl _), HM.out, Nat.sub_self]
            simp [cur_len hlt]
            omega
          obtain ⟨fn, tmps, assign, body, hy, hR⟩ := HY.out m (fun _ => False) (fun _ => False) W0 w1 #[.int .i64 (j : Int), v1] (List.getElem?_eq_some_iff.1 hseg).1 hJ noT (fun _ h => h.elim) (fun _ h => h.elim) (hst.trans (Stab.of_below (T := fun _ => False) hb1) (fun _ h => h.elim))
            ⟨j, _, v1, hseg, by omega, rfl, Kd.R_lower hR1 hst.size⟩
          have HR := Lib.hid hR
          have HB1 := Lib.hid hb1
          clear hR1 hg1 hR hb1 hseg
          go_upto_region 5 with (fail)
          refine (wpIn_wide (n := 5)).1 ?_
          gi_wp2_with (gi_at_builtin; refine runIn_app _ _ _ (by kernel_rfl) rfl hrun ?_)
          refine (HR.out _).mono ?_
          rintro e W3 (⟨rfl, hJ3, hk3⟩ | ⟨rfl, hJ3, hk3⟩)
          · have HK3 := Lib.hid hk3
            clear hk3 hrun hy
            gi_wp2
            go_wp2
            go_roundw
            case rel =>
              refine ⟨k + 1, k + 1, m + 1, by go_num, by go_num, Nat.le_refl _, hlt, W3, dn ++ [(j, (l.take k).drop j)], ?_, ?_, hJ3, Stab.refl _ _ _, (hk.trans (Keep.of_below HB1.out)).trans (HK3.out.mono (fun b h => .inl h))⟩
              · rw [HD.out, HS.out, if_pos H0.out, if_neg (fun e => by have := cur_len (j := j) hlt; rw [e] at this; simp at this; omega)]
                have e1 : k - ((l.take k).drop j).length = j := by rw [cur_len hlt]; omega
                have e2 : (l.take (k + 1)).drop (k + 1) = [] := by simp
                rw [e1, e2, List.append_assoc]; rfl
              · rw [List.length_append, HM.out]; rfl
            case measure => simp [intOf]; omega
          · clear hk3 hrun hy
            gi_wp2
            go_wp2
            rw [Exit.noGoto_ret]
            refine bodyPost_ret (results_none rfl _ _ _) rfl ?_
            exact ⟨⟨_, rfl⟩, _, _, W3, m, noT, fun _ h => .inl h, Stab.refl _ _ _, .inr ⟨by have := HD.out; have h2 := HM.out; have h3 := congrArg List.length this; rw [HS.out, if_pos H0.out, if_neg (fun e => by have := cur_len (j := j) hlt; rw [e] at this; simp at this; omega), List.length_append, List.length_cons] at h3; omega, hJ3, trivial⟩⟩
        · have e0 : (l.take k).drop j = [] := by simp; omega
          have t1 : (x != 0) = false := by simp [h0]
          have t2 : decide (j < k) = false := by simp; omega
          have t3 : decide ((j : Int) < (k : Int)) = false := by simp; omega
          have H0 := Lib.hid h0
          have E0 := Lib.hid e0
          clear h0 e0
          go_wp2
          go_roundw
          case rel =>
            refine ⟨k + 1, k + 1, m, by go_num, by go_num, Nat.le_refl _, hlt, W0, dn, ?_, HM.out, hJ, hst, hk⟩
            rw [HD.out, HS.out, if_pos H0.out, if_pos E0.out]
            have e2 : (l.take (k + 1)).drop (k + 1) = [] := by simp
            rw [e2]
          case measure => simp [intOf]; omega
      · have t1 : (x != 0) = true := by simp [h0]
        have H0 := Lib.hid h0
        clear h0
        go_wp2
        go_roundw
        case rel =>
          exact ⟨k + 1, j, m, by go_num, rfl, by omega, hlt, W0, dn, by rw [HD.out, HS.out, if_neg H0.out, HC.out], HM.out, hJ, hst, hk⟩
        case measure => simp [intOf]; omega
    · have e : k = l.length := by omega
      have HE := Lib.hid e
      clear e hbr
      go_wp2
      rw [Exit.noGoto_normal]
      go_end0
      refine ⟨⟨_, rfl⟩, _, _, W0, m, noT, fun _ h => .inl h, hst, .inl ⟨?_, hJ, trivial⟩⟩
      have := HD.out
      rw [HE.out, List.drop_length] at this
      rw [this, ← HM.out]
      simp [sgo]

end Go.Proofs.Ytnflobldekhjbaa
