/- Lists without noughts, wrapped, have the segments that they are: FenceWraps answers true for all inputs. -/
import Derived.Test.YtnflobldekhjbaaLaws
import Derived.Test.YtnflobldekhjbaaRw
import Derived.LoopTactic
set_option linter.unusedVariables false
set_option linter.unusedSimpArgs false
namespace Go.Proofs.Ytnflobldekhjbaa.P
open Go.RowKit Go.Proofs.YtnflobldekhjbaaW.PrintWords Go.Proofs.YtnflobldekhjbaaW.PrintMore Go.Proofs.Ytnflobldekhjbaa.Ext Go.Proofs.Ytnflobldekhjbaa
attribute [local go_sem] max2_int min2_int max_two min_two max_three min_three max_four min_four
attribute [local go_sem] Oper.semAt_some

def ne0 (c : Int) : Bool := c != 0
def cut60 (x : List Int) : List Int := (x.take 60).filter ne0
def wls (ls : List (List Int)) : List (List Int) := (ls.take 20).map cut60
def some0 (b : List Int) : Bool := !b.isEmpty
def wn : List (List Int) → Nat
  | [] => 0
  | b :: r => b.length + 2 + wn r
def wrp : List (List Int) → List Int
  | [] => []
  | b :: r => 0 :: (b ++ 0 :: wrp r)

theorem wn_app : ∀ (a b : List (List Int)), wn (a ++ b) = wn a + wn b
  | [], b => by simp [wn]
  | x :: a, b => by simp [wn, wn_app a b]; omega
theorem wrp_len : ∀ (l : List (List Int)), (wrp l).length = wn l
  | [] => rfl
  | b :: r => by simp [wrp, wn, wrp_len r]; omega
theorem cut60_len (x : List Int) : (cut60 x).length ≤ 60 := Nat.le_trans (List.length_filter_le _ _) (by simp; omega)
theorem cut60_no (x : List Int) : 0 ∉ cut60 x := fun h => by
  have := (List.mem_filter.1 h).2
  simp [ne0] at this
theorem wls_len (ls : List (List Int)) : (wls ls).length = min 20 ls.length := by simp [wls]
theorem wls_mem {ls : List (List Int)} {b : List Int} (h : b ∈ wls ls) : b.length ≤ 60 ∧ 0 ∉ b := by
  obtain ⟨x, _, rfl⟩ := List.mem_map.1 h
  exact ⟨cut60_len x, cut60_no x⟩
theorem wn_le : ∀ (l : List (List Int)), (∀ b ∈ l, b.length ≤ 60) → wn l ≤ 62 * l.length
  | [], _ => by simp [wn]
  | b :: r, h => by
    have := h b (by simp)
    have := wn_le r (fun x hx => h x (by simp [hx]))
    simp [wn]; omega
theorem wls_get {ls : List (List Int)} {i : Nat} (h : i < (wls ls).length) : (wls ls)[i] = cut60 (ls[i]'(by rw [wls_len] at h; omega)) := by simp [wls]

theorem sgo_no : ∀ (b : List Int) (i : Nat) (cur : List Int), 0 ∉ b → (sgo i cur (b ++ [0])).map (·.2) = if cur ++ b = [] then [] else [cur ++ b]
  | [], i, cur, _ => by
    simp only [List.nil_append, sgo, if_true, List.append_nil]
    split <;> simp
  | c :: b, i, cur, h => by
    have hc : c ≠ 0 := fun e => h (by simp [e])
    simp only [List.cons_append, sgo]
    rw [if_neg hc, sgo_no b (i + 1) (cur ++ [c]) (fun m => h (by simp [m]))]
    simp
theorem segs_wrp : ∀ (l : List (List Int)) (i : Nat), (∀ b ∈ l, 0 ∉ b) → (sgo i [] (wrp l)).map (·.2) = l.filter some0
  | [], i, _ => by simp [wrp, sgo]
  | b :: r, i, h => by
    have h0 := h b (by simp)
    simp only [wrp, sgo, if_true]
    rw [show b ++ 0 :: wrp r = b ++ 0 :: wrp r from rfl, sgo_zero b (wrp r) (i + 1) 0 [], sgo_no b (i + 1) [] h0, segs_wrp r 0 (fun x hx => h x (by simp [hx]))]
    cases b with
    | nil => simp [some0]
    | cons c b => simp [some0]
theorem opn_no : ∀ (b : List Int) (cur r : List Int), 0 ∉ b → opn cur (b ++ 0 :: r) = opn [] r
  | [], cur, r, _ => by simp [opn]
  | c :: b, cur, r, h => by
    have hc : c ≠ 0 := fun e => h (by simp [e])
    simp only [List.cons_append, opn]
    rw [if_neg hc, opn_no b (cur ++ [c]) r (fun m => h (by simp [m]))]
theorem opn_wrp : ∀ (l : List (List Int)), (∀ b ∈ l, 0 ∉ b) → opn [] (wrp l) = []
  | [], _ => rfl
  | b :: r, h => by
    simp only [wrp, opn, if_true]
    rw [opn_no b [] (wrp r) (h b (by simp)), opn_wrp r (fun x hx => h x (by simp [hx]))]

theorem wrap_loop (l : List (List Int)) (hl : ∀ b ∈ l, b.length ≤ 60) (hn : l.length ≤ 1000) : ∀ (d i : Nat) (out : List Int), i + d = l.length → out.length ≤ 62 * i → ∀ k, d < k → fence_Wrap.l0 k out l (l.length : Int) (i : Int) = some (out ++ wrp (l.drop i)) := by
  intro d
  induction d with
  | zero =>
    intro i out hi ho k hk
    obtain ⟨k, rfl⟩ : ∃ m, k = m + 1 := ⟨k - 1, by omega⟩
    simp only [fence_Wrap.l0]
    rw [if_neg (by omega), List.drop_of_length_le (by omega)]; simp [wrp]
  | succ d ih =>
    intro i out hi ho k hk
    obtain ⟨k, rfl⟩ : ∃ m, k = m + 1 := ⟨k - 1, by omega⟩
    have hil : i < l.length := by omega
    have h60 := hl l[i] (List.getElem_mem hil)
    have hg : rd_L1 l (i : Int) = l[i] := by simp [rd_L1, List.getD_eq_getElem?_getD, List.getElem?_eq_getElem hil]
    simp only [fence_Wrap.l0]
    have e2 : wrap64 ((i : Int) + 1) = ((i + 1 : Nat) : Int) := by unfold wrap64; omega
    rw [if_pos (by omega), if_pos (by omega), if_pos (by omega), if_pos (by omega), hg]
    simp only [Option.bind_some]
    rw [if_pos (by simp; omega), if_pos (by simp; omega), e2, ih (i + 1) _ (by omega) (by simp; omega) k (by omega), List.drop_eq_getElem_cons hil]
    simp [wrp]
theorem wrap_f (l : List (List Int)) (hl : ∀ b ∈ l, b.length ≤ 60) (hn : l.length ≤ 1000) : fence_Wrap.f (l.length + 1) l = some (wrp l) := by
  have := wrap_loop l hl hn l.length 0 [] (by omega) (by simp) (l.length + 1) (by omega)
  simpa [fence_Wrap.f] using this

theorem apart_s {W : World} {s f s1 : Value} (hne : ∀ k, f.ownBlock = some k → s.ownBlock ≠ some k) (hlt : ∀ k, f.ownBlock = some k → k < W.heap.size) (hat : s1.ownBlock = s.ownBlock ∨ ∃ b, s1.ownBlock = some b ∧ W.heap.size ≤ b) : ∀ k, f.ownBlock = some k → s1.ownBlock ≠ some k := by
  intro k hk e
  rcases hat with h | ⟨b, h, hb⟩
  · exact hne k hk (h ▸ e)
  · rw [h] at e; cases e; have := hlt _ hk; omega
theorem apart_f {W : World} {s f f1 : Value} (hne : ∀ k, f.ownBlock = some k → s.ownBlock ≠ some k) (hlt : ∀ k, s.ownBlock = some k → k < W.heap.size) (hat : f1.ownBlock = f.ownBlock ∨ ∃ b, f1.ownBlock = some b ∧ W.heap.size ≤ b) : ∀ k, f1.ownBlock = some k → s.ownBlock ≠ some k := by
  intro k hk e
  rcases hat with h | ⟨b, h, hb⟩
  · exact hne k (h ▸ hk) e
  · rw [h] at hk; cases hk; have := hlt _ e; omega
/-- Ahead of each list. -/
def OutR (w : World) (ls : List (List Int)) (s f n t : Value) (wr : World) : Prop :=
  ∃ i : Nat, RW w.heap.size wr s ((wls ls).take i) ∧ RW w.heap.size wr f (((wls ls).take i).filter some0) ∧ n = .int .i64 (wn ((wls ls).take i) : Int) ∧ t = .int .i64 (i : Int) ∧ i ≤ (wls ls).length ∧ (∀ k, f.ownBlock = some k → s.ownBlock ≠ some k) ∧ Below w.heap.size w wr
/-- Ahead of each byte. -/
def InR (w0 : World) (x : List Int) (b t : Value) (wr : World) : Prop :=
  ∃ (k c : Nat) (A : Option Addr), b = .slice A ((x.take k).filter ne0).length c ∧ t = .int .i64 (k : Int) ∧ k ≤ (x.take 60).length ∧ (Kd.int .u8).R 5 wr w0.heap.size (fun _ => True) b ((x.take k).filter ne0) ∧ Below w0.heap.size w0 wr
def intV : Value → Int
  | .int _ n => n
  | _ => 0

set_option maxRecDepth 100000 in
set_option maxHeartbeats 4000000 in
theorem cuneiformlaw06_FenceWraps.walk (a0 : Option Addr) (c0 : Nat) (ls : List (List Int)) (w : World) (D0 : (Kd.slice 5 (Kd.int .u8)).C w a0 ls.length ls) (hc : ls.length ≤ c0) :
    Calls Try.prog 5 #[.slice a0 ls.length c0] w fun e w' => e = .returned (.bool true) ∧ Below w.heap.size w w' := by
  have hwl := wls_len ls
  have hlm : ls.length ≤ 9223372036854775807 := D0.2.1
  have HW := Lib.hid hwl
  go_enter Try.func5, Try.ntmps5
  go_wp2_with (fail)
  go_loopw [3, 4, 5, 6] (fun s f n t wr => OutR w ls s f n t wr) (fun _ _ _ t _ => 20 - (intV t).toNat)
  case atStart => exact ⟨0, RW.nil _ _, RW.nil _ _, rfl, rfl, Nat.zero_le _, fun k h => by simp [Value.ownBlock] at h, Below.refl _ _⟩
  case round =>
    obtain ⟨i, hS, hF, rfl, rfl, hi, hne, hb⟩ := hrel
    have HB := Lib.hid hb
    have HS := Lib.hid (And.intro hS (And.intro hF hne))
    clear hS hF hne hb
    by_cases hlt : i < (wls ls).length
    · have hil : i < ls.length := by omega
      have hi20 : i < 20 := by omega
      have q1 : ((i : Int) < (ls.length : Int)) = True := eq_true (by omega)
      have q2 : ((i : Int) < 20) = True := eq_true (by omega)
      obtain ⟨adx, Ax, cx, rfl, hcx, hxl, Cx⟩ := at_L1 D0 (i : Int) (by omega) (by omega)
      rw [Int.toNat_natCast] at hcx
      have hgx : rd_L1 ls (i : Int) = ls[i] := by simp [rd_L1, List.getD_eq_getElem?_getD, List.getElem?_eq_getElem hil]
      have hwx : (wls ls)[i] = cut60 ls[i] := wls_get hlt
      rw [hgx] at hcx hxl Cx
      have hx9 : ls[i].length ≤ 9223372036854775807 := Cx.2.1
      have HG := Lib.hid hgx
      have HWX := Lib.hid hwx
      generalize ls[i] = x at *
      clear hwl hgx hwx
      go_wp2_with (fail)
      generalize wr = W0 at *
      go_loopw [7, 8] (fun b t w2 => InR W0 x b t w2) (fun _ t _ => 60 - (intV t).toNat)
      case atStart => exact ⟨0, 0, none, rfl, rfl, Nat.zero_le _, Kd.R_nil _ _ _ _ _, Below.refl _ _⟩
      case round =>
        obtain ⟨k, cb, Ab, rfl, rfl, hk, hR, hbb⟩ := hrel
        rw [List.length_take] at hk
        have hB0 : Below w.heap.size w wr := HB.out.trans (hbb.mono HB.out.size)
        have hcx2 := pw_cell_below hB0 hcx
        have hil2 : (i < ls.length) = True := eq_true hil
        have HBB := Lib.hid (And.intro hbb (And.intro hR hB0))
        clear hR hbb hB0
        have hk1 : wrap64 ((k : Int) + 1) = ((k + 1 : Nat) : Int) := by unfold wrap64; omega
        by_cases hkx : k < x.length ∧ k < 60
        · obtain ⟨hkx1, hkx2⟩ := hkx
          obtain ⟨adb, rfl, hcb⟩ := Kd.at_int (Kd.C_below Cx HBB.out.2.2) (k : Int) (by omega) (by omega)
          have t1 : ((k : Int) < (x.length : Int)) = True := eq_true (by omega)
          have t2 : ((k : Int) < 60) = True := eq_true (by omega)
          have t3 : (x.length ≤ k) = False := eq_false (by omega)
          rw [Int.toNat_natCast] at hcb
          have hst : x.take (k + 1) = x.take k ++ [rd x (k : Int)] := by rw [List.take_succ_eq_append_getElem hkx1, rd_get hkx1]
          have HST := Lib.hid hst
          have HK1 := Lib.hid hk1
          clear hst hk1
          generalize hys : (x.take k).filter ne0 = ys at *
          have hyl : ys.length ≤ 60 := by rw [← hys]; exact Nat.le_trans (List.length_filter_le _ _) (by simp; omega)
          have HYS := Lib.hid hys
          clear hys
          generalize hy1 : rd x (k : Int) = y at *
          by_cases hy : y = 0
          · subst hy
            have e1 : (x.take (k + 1)).filter ne0 = ys := by rw [HST.out, List.filter_append, HYS.out]; simp [ne0]
            have HE := Lib.hid e1
            clear e1 hy1
            go_wp2_with (fail)
            refine ⟨⟨k + 1, cb, Ab, by rw [HE.out], by rw [← HK1.out]; unfold wrap64; simp; omega, by rw [List.length_take]; omega, by rw [HE.out]; exact HBB.out.2.1, HBB.out.1⟩, by simp [intV]; omega⟩
          · have hy2 : (y != 0) = true := by simpa using hy
            have e1 : (x.take (k + 1)).filter ne0 = ys ++ [y] := by rw [HST.out, List.filter_append, HYS.out]; simp [ne0, hy]
            have HE := Lib.hid e1
            clear hy e1 hy1
            obtain ⟨v1, w1, hrun, hR1, hg1, hat1⟩ := run_app_one (P := Try.prog) (t := 22) (e := 5) (ty := 22) (p := y) (cs := [.int .u8 y]) (okp := fun _ => False) (Kd.int .u8) Try.underlying22 info5 rfl (by decide) (by decide) HBB.out.2.1 rfl (fun _ h => h.elim) (fun _ _ => trivial) HBB.out.1.size (by omega)
            obtain ⟨A1, c1, ev1⟩ := Kd.R_slice hR1
            have hb1 : Below W0.heap.size W0 w1 := below_app HBB.out.1 hg1 HBB.out.1.size (fun q e => Kd.R_base HBB.out.2.1 q e)
            have HB1 := Lib.hid (And.intro hb1 (And.intro hR1 ev1))
            clear hb1 hR1 hg1 hat1 ev1
            go_wp2_with (at_builtin; refine run_app (.tmp 43) (.tmp 51) 22 rfl rfl hrun ?_)
            refine ⟨⟨k + 1, c1, A1, by rw [HE.out]; exact HB1.out.2.2, by rw [← HK1.out]; unfold wrap64; simp; omega, by rw [List.length_take]; omega, by rw [HE.out]; exact HB1.out.2.1, HB1.out.1⟩, by simp [intV]; omega⟩
        · have hke : (x.take k) = x.take 60 := by
            rcases Nat.lt_or_ge k x.length with h | h
            · rw [show k = 60 by omega]
            · rw [List.take_of_length_le h, List.take_of_length_le (by omega)]
          by_cases hkl : k < x.length
          · have t1 : ((k : Int) < (x.length : Int)) = True := eq_true (by omega)
            have t2 : ((k : Int) < 60) = False := eq_false (by omega)
            clear hk1
            generalize hys : (x.take k).filter ne0 = ys at *
            have hyx : (wls ls)[i] = ys := by rw [HWX.out, ← hys, hke]; rfl
            have htk : (wls ls).take (i + 1) = (wls ls).take i ++ [ys] := by rw [List.take_succ_eq_append_getElem hlt, hyx]
            have hyl : ys.length ≤ 60 := by rw [← hyx, HWX.out]; exact cut60_len _
            obtain ⟨hbb, hR, hB0⟩ := HBB.out
            obtain ⟨hS, hF, hne⟩ := HS.out
            have hwt : wn ((wls ls).take i) ≤ 62 * 20 := by
              have h1 := wn_le ((wls ls).take i) (fun b hb => (wls_mem (List.mem_of_mem_take hb)).1)
              have h2 : ((wls ls).take i).length ≤ 20 := by rw [List.length_take, HW.out]; omega
              omega
            have hwt2 : wn ((wls ls).take (i + 1)) = wn ((wls ls).take i) + ys.length + 2 := by rw [htk, wn_app]; simp [wn]; omega
            have hb5 := (Bytes5.of_R hR).2
            have hS1 := hS.below hbb
            have hF1 := hF.below hbb
            obtain ⟨v1, w1, hr1, hS2, g1, at1⟩ := hS1.append (A := Ab) (c := cb) rfl hb5.1 hb5.2 hB0.size (by rw [List.length_take]; omega)
            have hF2 := hF1.other g1 hS1.typed hne
            have hy2 := hb5.2.grown g1 hS1.typed
            have hne2 := apart_s hne hF1.lt at1
            have hB1 : Below w.heap.size w w1 := below_app hB0 g1 hB0.size hS1.base_
            have HE := Lib.hid (And.intro hS2 (And.intro hF2 (And.intro hne2 (And.intro hB1 (And.intro htk (And.intro hwt2 (And.intro hy2 hb5.1)))))))
            have HWT := Lib.hid hwt
            clear hbb hR hB0 hS hF hne hb5 hS1 hF1 g1 at1 hS2 hF2 hy2 hne2 hB1 htk hwt2 hyx hys hke
            generalize wn ((wls ls).take i) = wq at *
            cases ys with
            | nil =>
              go_wp2_with (at_builtin; refine run_app (.tmp 53) (.tmp 55) 23 rfl rfl hr1 ?_)
              all_goals (refine ⟨⟨i + 1, by rw [HE.out.2.2.2.2.1]; exact HE.out.1, by rw [HE.out.2.2.2.2.1, List.filter_append]; simpa [some0] using HE.out.2.1, by rw [HE.out.2.2.2.2.2.1]; simp, by simp, hlt, HE.out.2.2.1, HE.out.2.2.2.1⟩, by simp [intV]; omega⟩)
            | cons y0 yr =>
              obtain ⟨v2, w2, hr2, hF3, g2, at2⟩ := HE.out.2.1.append (A := Ab) (c := cb) rfl HE.out.2.2.2.2.2.2.2 HE.out.2.2.2.2.2.2.1 HE.out.2.2.2.1.size (by have := List.length_filter_le some0 ((wls ls).take i); rw [List.length_take] at this; omega)
              have hS3 := HE.out.1.other g2 HE.out.2.1.typed (fun k hk e => HE.out.2.2.1 k e hk)
              have hne3 := apart_f HE.out.2.2.1 HE.out.1.lt at2
              have hB2 : Below w.heap.size w w2 := below_app HE.out.2.2.2.1 g2 HE.out.2.2.2.1.size HE.out.2.1.base_
              have HE2 := Lib.hid (And.intro hS3 (And.intro hF3 (And.intro hne3 hB2)))
              clear hS3 hF3 hne3 hB2 g2 at2
              have hyn : (y0 :: yr).length = yr.length + 1 := rfl
              rw [hyn] at hr1 hr2 hyl
              rw [hyn]
              go_wp2_with (at_builtin; first | (refine run_app (.tmp 53) (.tmp 55) 23 rfl rfl hr1 ?_) | (refine run_app (.tmp 65) (.tmp 67) 23 rfl rfl hr2 ?_))
              all_goals (refine ⟨⟨i + 1, by rw [HE.out.2.2.2.2.1]; exact HE2.out.1, by rw [HE.out.2.2.2.2.1, List.filter_append]; simpa [some0] using HE2.out.2.1, by rw [HE.out.2.2.2.2.2.1]; simp, by simp, hlt, HE2.out.2.2.1, HE2.out.2.2.2⟩, by simp [intV]; omega⟩)
          · have t1 : ((k : Int) < (x.length : Int)) = False := eq_false (by omega)
            clear hk1
            generalize hys : (x.take k).filter ne0 = ys at *
            have hyx : (wls ls)[i] = ys := by rw [HWX.out, ← hys, hke]; rfl
            have htk : (wls ls).take (i + 1) = (wls ls).take i ++ [ys] := by rw [List.take_succ_eq_append_getElem hlt, hyx]
            have hyl : ys.length ≤ 60 := by rw [← hyx, HWX.out]; exact cut60_len _
            obtain ⟨hbb, hR, hB0⟩ := HBB.out
            obtain ⟨hS, hF, hne⟩ := HS.out
            have hwt : wn ((wls ls).take i) ≤ 62 * 20 := by
              have h1 := wn_le ((wls ls).take i) (fun b hb => (wls_mem (List.mem_of_mem_take hb)).1)
              have h2 : ((wls ls).take i).length ≤ 20 := by rw [List.length_take, HW.out]; omega
              omega
            have hwt2 : wn ((wls ls).take (i + 1)) = wn ((wls ls).take i) + ys.length + 2 := by rw [htk, wn_app]; simp [wn]; omega
            have hb5 := (Bytes5.of_R hR).2
            have hS1 := hS.below hbb
            have hF1 := hF.below hbb
            obtain ⟨v1, w1, hr1, hS2, g1, at1⟩ := hS1.append (A := Ab) (c := cb) rfl hb5.1 hb5.2 hB0.size (by rw [List.length_take]; omega)
            have hF2 := hF1.other g1 hS1.typed hne
            have hy2 := hb5.2.grown g1 hS1.typed
            have hne2 := apart_s hne hF1.lt at1
            have hB1 : Below w.heap.size w w1 := below_app hB0 g1 hB0.size hS1.base_
            have HE := Lib.hid (And.intro hS2 (And.intro hF2 (And.intro hne2 (And.intro hB1 (And.intro htk (And.intro hwt2 (And.intro hy2 hb5.1)))))))
            have HWT := Lib.hid hwt
            clear hbb hR hB0 hS hF hne hb5 hS1 hF1 g1 at1 hS2 hF2 hy2 hne2 hB1 htk hwt2 hyx hys hke
            generalize wn ((wls ls).take i) = wq at *
            cases ys with
            | nil =>
              go_wp2_with (at_builtin; refine run_app (.tmp 53) (.tmp 55) 23 rfl rfl hr1 ?_)
              all_goals (refine ⟨⟨i + 1, by rw [HE.out.2.2.2.2.1]; exact HE.out.1, by rw [HE.out.2.2.2.2.1, List.filter_append]; simpa [some0] using HE.out.2.1, by rw [HE.out.2.2.2.2.2.1]; simp, by simp, hlt, HE.out.2.2.1, HE.out.2.2.2.1⟩, by simp [intV]; omega⟩)
            | cons y0 yr =>
              obtain ⟨v2, w2, hr2, hF3, g2, at2⟩ := HE.out.2.1.append (A := Ab) (c := cb) rfl HE.out.2.2.2.2.2.2.2 HE.out.2.2.2.2.2.2.1 HE.out.2.2.2.1.size (by have := List.length_filter_le some0 ((wls ls).take i); rw [List.length_take] at this; omega)
              have hS3 := HE.out.1.other g2 HE.out.2.1.typed (fun k hk e => HE.out.2.2.1 k e hk)
              have hne3 := apart_f HE.out.2.2.1 HE.out.1.lt at2
              have hB2 : Below w.heap.size w w2 := below_app HE.out.2.2.2.1 g2 HE.out.2.2.2.1.size HE.out.2.1.base_
              have HE2 := Lib.hid (And.intro hS3 (And.intro hF3 (And.intro hne3 hB2)))
              clear hS3 hF3 hne3 hB2 g2 at2
              have hyn : (y0 :: yr).length = yr.length + 1 := rfl
              rw [hyn] at hr1 hr2 hyl
              rw [hyn]
              go_wp2_with (at_builtin; first | (refine run_app (.tmp 53) (.tmp 55) 23 rfl rfl hr1 ?_) | (refine run_app (.tmp 65) (.tmp 67) 23 rfl rfl hr2 ?_))
              all_goals (refine ⟨⟨i + 1, by rw [HE.out.2.2.2.2.1]; exact HE2.out.1, by rw [HE.out.2.2.2.2.1, List.filter_append]; simpa [some0] using HE2.out.2.1, by rw [HE.out.2.2.2.2.2.1]; simp, by simp, hlt, HE2.out.2.2.1, HE2.out.2.2.2⟩, by simp [intV]; omega⟩)
    · have hie : i = (wls ls).length := by omega
      subst hie
      rw [List.take_length] at HS ⊢
      clear hi hlt
      by_cases hil : (wls ls).length < ls.length
      · have q1 : (((wls ls).length : Int) < (ls.length : Int)) = True := eq_true (by omega)
        have q2 : (((wls ls).length : Int) < 20) = False := eq_false (by omega)
        obtain ⟨hS, hF, hne⟩ := HS.out
        obtain ⟨As, cs, rfl, hcs, Cs⟩ := hS.reads
        obtain ⟨Af, cf, rfl, hcf, Cf⟩ := hF.reads
        have hB := HB.out
        have hwm : ∀ b ∈ wls ls, b.length ≤ 60 ∧ 0 ∉ b := fun b hb => wls_mem hb
        have hw20 : (wls ls).length ≤ 20 := by omega
        have hwrp := wrp_len (wls ls)
        have hwn := wn_le (wls ls) (fun b hb => (hwm b hb).1)
        have hf1 := wrap_f (wls ls) (fun b hb => (hwm b hb).1) (by omega)
        have hf2 : fence_Split.f (wrp (wls ls)) = some ((wls ls).filter some0, []) := by
          rw [show fence_Split.f (wrp (wls ls)) = some ((segs (wrp (wls ls))).map (·.2), opn [] (wrp (wls ls))) from if_pos (by omega), opn_wrp _ (fun b hb => (hwm b hb).2)]
          have := segs_wrp (wls ls) 0 (fun b hb => (hwm b hb).2)
          unfold segs; rw [this]
        have hfl : ((wls ls).filter some0).length ≤ 20 := Nat.le_trans (List.length_filter_le _ _) hw20
        have hf3 := lists_self ((wls ls).filter some0) 60 (by omega) (by omega) (fun b hb => (hwm b ((List.mem_filter.1 hb).1)).1) 200 (by omega)
        generalize (wls ls).filter some0 = fs at *
        generalize wrp (wls ls) = wr_ at *
        have hwn' : wn (wls ls) = wr_.length := hwrp.symm
        rw [hwn']
        generalize wls ls = ws at *
        clear hS hF hne HS HB hwm hwrp HW hwn' hwl
        go_wp2_with (fail)
        refine (fence_Wrap.calls (ws.length + 1) As cs ws wr_ wr Cs hcs hf1).mono ?_
        rintro e x1 ⟨v1, rfl, R1, B1⟩
        obtain ⟨Aw, cw, rfl, hcw, Cw⟩ := Kd.R_reads R1
        have Cf1 := Kd.C_below Cf B1
        have hB1 : Below w.heap.size w x1 := hB.trans (B1.mono hB.size)
        clear R1 B1 hB Cs Cf hf1
        go_wp2_with (fail)
        refine (fence_Split.calls Aw cw wr_ fs [] x1 Cw hcw hf2).mono ?_
        rintro e x2 ⟨v2, v3, rfl, S2, R2, B2⟩
        obtain ⟨A2, c2, rfl, hc2, C2⟩ := Kd.S_reads S2
        obtain ⟨A3, c3, rfl, hc3, C3⟩ := Kd.R_reads R2
        have Cf2 := Kd.C_below Cf1 B2
        have hB2 : Below w.heap.size w x2 := hB1.trans (B2.mono hB1.size)
        have hbK : Below x2.heap.size x2 x2 := Below.refl _ _
        obtain ⟨kk, hkk⟩ := known_true
        have K8 : ∀ X, Below x2.heap.size x2 X → Calls Try.prog 8 #[] X fun e w' => e = .returned (.bool true) ∧ Below x2.heap.size x2 w' := fun X hX => (cuneiformlaw06_known.calls kk true X hkk).mono fun e w' h => ⟨h.1, hX.trans (h.2.mono hX.size)⟩
        have K10 : ∀ X, Below x2.heap.size x2 X → Calls Try.prog 10 #[.slice A2 fs.length c2, .slice Af fs.length cf] X fun e w' => e = .returned (.bool true) ∧ Below x2.heap.size x2 w' := fun X hX =>
          (cuneiformlaw06_Lists.calls 200 A2 c2 fs Af cf fs true X (Kd.C_below C2 hX) hc2 (Kd.C_below Cf2 hX) hcf hf3).mono fun e w' h => ⟨h.1, hX.trans (h.2.below.mono hX.size)⟩
        have hret : ∀ (a3 : Act) (X : World), (results Try.f5 a3.tmps).run Try.prog X = .ok (.bool true) X → a3.defers = [] → Below x2.heap.size x2 X → bodyPost Try.prog Try.f5 (fun e w' => e = .returned (.bool true) ∧ Below w.heap.size w w') .ret a3 X := fun a3 X h1 h2 h3 => bodyPost_ret h1 h2 ⟨rfl, hB2.trans (h3.mono hB2.size)⟩
        have HRET := Lib.hid hret
        clear hret S2 R2 B2 C2 C3 Cf1 Cf2 hB1 hB2 Cw hf2 hf3 hkk
        go_wp2_with (fail)
        refine (K8 _ hbK).mono ?_
        rintro e wK ⟨rfl, hbK⟩
        go_wp2_with (fail)
        refine (K10 _ hbK).mono ?_
        rintro e wK ⟨rfl, hbK⟩
        go_wp2_with (fail)
        all_goals exact HRET.out _ _ (by simp [results, Try.results5, go_sem]) rfl hbK
      · have q1 : (((wls ls).length : Int) < (ls.length : Int)) = False := eq_false (by omega)
        obtain ⟨hS, hF, hne⟩ := HS.out
        obtain ⟨As, cs, rfl, hcs, Cs⟩ := hS.reads
        obtain ⟨Af, cf, rfl, hcf, Cf⟩ := hF.reads
        have hB := HB.out
        have hwm : ∀ b ∈ wls ls, b.length ≤ 60 ∧ 0 ∉ b := fun b hb => wls_mem hb
        have hw20 : (wls ls).length ≤ 20 := by omega
        have hwrp := wrp_len (wls ls)
        have hwn := wn_le (wls ls) (fun b hb => (hwm b hb).1)
        have hf1 := wrap_f (wls ls) (fun b hb => (hwm b hb).1) (by omega)
        have hf2 : fence_Split.f (wrp (wls ls)) = some ((wls ls).filter some0, []) := by
          rw [show fence_Split.f (wrp (wls ls)) = some ((segs (wrp (wls ls))).map (·.2), opn [] (wrp (wls ls))) from if_pos (by omega), opn_wrp _ (fun b hb => (hwm b hb).2)]
          have := segs_wrp (wls ls) 0 (fun b hb => (hwm b hb).2)
          unfold segs; rw [this]
        have hfl : ((wls ls).filter some0).length ≤ 20 := Nat.le_trans (List.length_filter_le _ _) hw20
        have hf3 := lists_self ((wls ls).filter some0) 60 (by omega) (by omega) (fun b hb => (hwm b ((List.mem_filter.1 hb).1)).1) 200 (by omega)
        generalize (wls ls).filter some0 = fs at *
        generalize wrp (wls ls) = wr_ at *
        have hwn' : wn (wls ls) = wr_.length := hwrp.symm
        rw [hwn']
        generalize wls ls = ws at *
        clear hS hF hne HS HB hwm hwrp HW hwn' hwl
        go_wp2_with (fail)
        refine (fence_Wrap.calls (ws.length + 1) As cs ws wr_ wr Cs hcs hf1).mono ?_
        rintro e x1 ⟨v1, rfl, R1, B1⟩
        obtain ⟨Aw, cw, rfl, hcw, Cw⟩ := Kd.R_reads R1
        have Cf1 := Kd.C_below Cf B1
        have hB1 : Below w.heap.size w x1 := hB.trans (B1.mono hB.size)
        clear R1 B1 hB Cs Cf hf1
        go_wp2_with (fail)
        refine (fence_Split.calls Aw cw wr_ fs [] x1 Cw hcw hf2).mono ?_
        rintro e x2 ⟨v2, v3, rfl, S2, R2, B2⟩
        obtain ⟨A2, c2, rfl, hc2, C2⟩ := Kd.S_reads S2
        obtain ⟨A3, c3, rfl, hc3, C3⟩ := Kd.R_reads R2
        have Cf2 := Kd.C_below Cf1 B2
        have hB2 : Below w.heap.size w x2 := hB1.trans (B2.mono hB1.size)
        have hbK : Below x2.heap.size x2 x2 := Below.refl _ _
        obtain ⟨kk, hkk⟩ := known_true
        have K8 : ∀ X, Below x2.heap.size x2 X → Calls Try.prog 8 #[] X fun e w' => e = .returned (.bool true) ∧ Below x2.heap.size x2 w' := fun X hX => (cuneiformlaw06_known.calls kk true X hkk).mono fun e w' h => ⟨h.1, hX.trans (h.2.mono hX.size)⟩
        have K10 : ∀ X, Below x2.heap.size x2 X → Calls Try.prog 10 #[.slice A2 fs.length c2, .slice Af fs.length cf] X fun e w' => e = .returned (.bool true) ∧ Below x2.heap.size x2 w' := fun X hX =>
          (cuneiformlaw06_Lists.calls 200 A2 c2 fs Af cf fs true X (Kd.C_below C2 hX) hc2 (Kd.C_below Cf2 hX) hcf hf3).mono fun e w' h => ⟨h.1, hX.trans (h.2.below.mono hX.size)⟩
        have hret : ∀ (a3 : Act) (X : World), (results Try.f5 a3.tmps).run Try.prog X = .ok (.bool true) X → a3.defers = [] → Below x2.heap.size x2 X → bodyPost Try.prog Try.f5 (fun e w' => e = .returned (.bool true) ∧ Below w.heap.size w w') .ret a3 X := fun a3 X h1 h2 h3 => bodyPost_ret h1 h2 ⟨rfl, hB2.trans (h3.mono hB2.size)⟩
        have HRET := Lib.hid hret
        clear hret S2 R2 B2 C2 C3 Cf1 Cf2 hB1 hB2 Cw hf2 hf3 hkk
        go_wp2_with (fail)
        refine (K8 _ hbK).mono ?_
        rintro e wK ⟨rfl, hbK⟩
        go_wp2_with (fail)
        refine (K10 _ hbK).mono ?_
        rintro e wK ⟨rfl, hbK⟩
        go_wp2_with (fail)
        all_goals exact HRET.out _ _ (by simp [results, Try.results5, go_sem]) rfl hbK
end Go.Proofs.Ytnflobldekhjbaa.P
