/- cobs.Decode: what it hands back. -/
import Derived.Test.YtmpampbpkcfdoaaEnc
import Derived.WalkMore
import Derived.ScopeJumps
import Derived.LoopTactic
set_option linter.unusedVariables false
set_option linter.unusedSimpArgs false
namespace Go.Proofs.Ytmpampbpkcfdoaa
open Go.RowKit Go.Proofs.YtmpampbpkcfdoaaW.PrintWords Go.Proofs.YtmpampbpkcfdoaaW.PrintMore
attribute [local go_sem] Oper.semAt_some

/-- What is decoded, if that is stuffed so: what remains, was the last block a full one, what is told so far. -/
def dec : Nat → List Int → Bool → List Int → Option (List Int)
  | 0, _, _, _ => none
  | _ + 1, [], _, _ => none
  | f + 1, x :: r, full, out =>
    if x = 0 ∨ (r.length : Int) < x - 1 then none
    else if 0 ∈ r.take (x - 1).toNat then none
    else if r.length = (x - 1).toNat then (if full = true ∧ x = 1 then none else some (out ++ r))
    else if x = 255 then dec f (r.drop 254) true (out ++ r.take 254)
    else dec f (r.drop (x - 1).toNat) false (out ++ r.take (x - 1).toNat ++ [0])
def told : Option (List Int) → List Int × Int
  | some o => (o, 0)
  | none => ([], 12)
def decoded (l : List Int) : List Int × Int := told (dec (l.length + 1) l false [])
def inByte (l : List Int) : Bool := l.all fun x => decide (0 ≤ x ∧ x < 256)
/-- At the label: it is stuffed from none. -/
def DecJ (w : World) (r1 : List Int) (r2 : Int) (a' : Act) (w' : World) : Prop :=
  r1 = [] ∧ r2 = 12 ∧ Below w.heap.size w w' ∧ ∃ u0 u1 u2 u3 u4 u5 u6 u7 u8 u9 u10 u11 u12 u13 u14 u15 u16 u17 u18 u19 u20 u21 u22 u23 u24 u25 u26 u27 u28 u29 u30 u31 u32 u33 u34 u35 u36 u37 u38 u39 u40 u41 u42 u43 u44 u45 u46 u47 u48 u49 u50 u51 u52 u53 u54 u55 u56 u57 u58 u59 u60 u61 u62 u63 u64 u65 u66 u67 u68 u69 u70 u71 u72 u73 u74 : Value, a' = { tmps := #[u0, u1, u2, u3, u4, u5, u6, u7, u8, u9, u10, u11, u12, u13, u14, u15, u16, u17, u18, u19, u20, u21, u22, u23, u24, u25, u26, u27, u28, u29, u30, u31, u32, u33, u34, u35, u36, u37, u38, u39, u40, u41, u42, u43, u44, u45, u46, u47, u48, u49, u50, u51, u52, u53, u54, u55, u56, u57, u58, u59, u60, u61, u62, u63, u64, u65, u66, u67, u68, u69, u70, u71, u72, u73, u74], defers := [] }

def lenOf : Value → Nat
  | .slice _ n _ => n
  | _ => 0
/-- Ahead of each block. -/
def DecR (w : World) (l0 r1 : List Int) (r2 : Int) (o r f : Value) (wr : World) : Prop :=
  ∃ (out rest : List Int) (full : Bool) (Ao Ar : Option Addr) (co cr fu : Nat), o = .slice Ao out.length co ∧ r = .slice Ar rest.length cr ∧ f = .bool full ∧ rest.length ≤ cr ∧ rest.length < fu ∧ rest.length + out.length ≤ l0.length ∧ Hid ((Kd.int .u8).C w Ar rest.length rest) ∧ Hid (told (dec fu rest full out) = (r1, r2)) ∧ Hid (inByte rest = true) ∧ Hid ((Kd.int .u8).R 5 wr w.heap.size (fun _ => True) (.slice Ao out.length co) out) ∧ Hid (rest ≠ []) ∧ Below w.heap.size w wr
namespace Ext
def cobs_Decode.f (l0 : List Int) : Option (List Int × Int) := if l0.length ≤ 1000000 ∧ inByte l0 = true then some (decoded l0) else none
set_option maxRecDepth 100000 in
set_option maxHeartbeats 2000000 in
theorem cobs_Decode.calls (A0 : Option Addr) (c0 : Nat) (l0 : List Int) (r1 : List Int) (r2 : Int) (w : World) (hr0 : Kd.C (Kd.int .u8) w A0 l0.length l0) (hc0 : l0.length ≤ c0) (h : cobs_Decode.f l0 = some (r1, r2)) :
    Calls Try.prog 11 #[.slice A0 l0.length c0] w fun e w' => ∃ v0_ : Value, e = .returned (.tuple #[v0_, .int .i64 r2]) ∧ Kd.R (Kd.int .u8) 5 w' w.heap.size (fun _ => True) v0_ r1 ∧ Below w.heap.size w w' := by
  unfold cobs_Decode.f at h
  split at h
  case isFalse => cases h
  rename_i hh
  obtain ⟨hlen, hin⟩ := hh
  have hr := Option.some.inj h
  have HRR := Lib.hid hr
  have HIN := Lib.hid hin
  clear h hr hin
  go_enter Try.func11, Try.ntmps11
  go_wp2
  refine wp_scope_jumps 0 (DecJ w r1 r2) (fun _ _ => 0) rfl ?first ?pass
  case pass =>
    rintro a' w' ⟨rfl, rfl, hb, u0, u1, u2, u3, u4, u5, u6, u7, u8, u9, u10, u11, u12, u13, u14, u15, u16, u17, u18, u19, u20, u21, u22, u23, u24, u25, u26, u27, u28, u29, u30, u31, u32, u33, u34, u35, u36, u37, u38, u39, u40, u41, u42, u43, u44, u45, u46, u47, u48, u49, u50, u51, u52, u53, u54, u55, u56, u57, u58, u59, u60, u61, u62, u63, u64, u65, u66, u67, u68, u69, u70, u71, u72, u73, u74, rfl⟩
    have HB := Lib.hid hb
    clear hb
    go_wp2
    have hfin : ∀ a3 : Act, (results Try.f11 a3.tmps).run Try.prog w' = .ok (.tuple #[.slice none 0 0, .int .i64 12]) w' → a3.defers = [] → bodyPost Try.prog Try.f11 (fun e w' => ∃ v0_ : Value, e = .returned (.tuple #[v0_, .int .i64 12]) ∧ (Kd.int .u8).R 5 w' w.heap.size (fun _ => True) v0_ [] ∧ Below w.heap.size w w') .ret a3 w' := fun a3 h1 h2 => bodyPost_ret h1 h2 ⟨_, rfl, Kd.R_nil _ _ _ _ _, HB.out⟩
    exact hfin _ (by simp [results, Try.results11, go_sem]) rfl
  case first =>
    cases l0 with
    | nil =>
      have hd : r1 = [] ∧ r2 = 12 := by have := HRR.out; simp [decoded, dec, told] at this; exact ⟨by rw [← this.1], by rw [← this.2]⟩
      go_wp2
      go_step3
      exact ⟨rfl, hd.1, hd.2, Below.refl _ _, _, _, _, _, _, _, _, _, _, _, _, _, _, _, _, _, _, _, _, _, _, _, _, _, _, _, _, _, _, _, _, _, _, _, _, _, _, _, _, _, _, _, _, _, _, _, _, _, _, _, _, _, _, _, _, _, _, _, _, _, _, _, _, _, _, _, _, _, _, _, _, _, _, _, _, rfl⟩
    | cons x0 rr =>
      have hl1 : (x0 :: rr).length = rr.length + 1 := rfl
      have hz : ((((x0 :: rr).length : Nat) : Int) == 0) = false := by simp; omega
      go_wp2
      go_step3
      go_wp2
      have hstart : Hid (told (dec ((x0 :: rr).length + 1) (x0 :: rr) false []) = (r1, r2)) := Lib.hid HRR.out
      have HNE := Lib.hid (show x0 :: rr ≠ [] from by simp)
      generalize x0 :: rr = l0 at *
      clear HRR hl1 hz
      go_loopw [4, 5, 6] (fun o r f wr => DecR w l0 r1 r2 o r f wr)
        (fun _ r _ _ => lenOf r)
      case atStart => exact ⟨[], l0, false, none, A0, 0, c0, l0.length + 1, rfl, rfl, rfl, hc0, by omega, by simp, Lib.hid hr0, hstart, HIN, Lib.hid (Kd.R_nil _ _ _ _ _), HNE, Below.refl _ _⟩
      case round =>
        obtain ⟨out, rest, full, Ao, Ar, co, cr, fu, rfl, rfl, rfl, hrc, hfu, hol, HC, HD, HI, HO, HN, hb⟩ := hrel
        cases rest with
        | nil => exact absurd rfl HN.out
        | cons x r =>
          have hx : 0 ≤ x ∧ x < 256 := by have := HI.out; simp [inByte] at this; exact this.1
          obtain ⟨fu, rfl⟩ : ∃ g, fu = g + 1 := ⟨fu - 1, by omega⟩
          obtain ⟨ad, rfl, hcell⟩ := Kd.at_int (Kd.C_below HC.out hb) 0 (by omega) (by simp)
          rw [show (0 : Int).toNat = 0 from rfl, Addr.add_zero', show rd (x :: r) 0 = x from rfl] at hcell
          have HB := Lib.hid hb
          have hln : (x :: r).length = r.length + 1 := rfl
          have hrc' : r.length + 1 ≤ cr := hrc
          have hol' : r.length + 1 + out.length ≤ l0.length := hol
          have hfu' : r.length < fu := by have : r.length + 1 < fu + 1 := hfu; omega
          clear hb hrc hol hfu hln
          have e1 : wrap64 (x - 1) = x - 1 := by unfold wrap64; omega
          by_cases hbad : x = 0 ∨ (r.length : Int) < x - 1
          · have hd : r1 = [] ∧ r2 = 12 := by
              have := HD.out
              unfold dec at this
              rw [if_pos hbad] at this
              simp [told] at this
              exact ⟨by rw [← this.1], by rw [← this.2]⟩
            clear HD
            go_wp2
            all_goals first | (exfalso; omega) | (refine wp_goto ?_; exact ⟨rfl, hd.1, hd.2, HB.out, _, _, _, _, _, _, _, _, _, _, _, _, _, _, _, _, _, _, _, _, _, _, _, _, _, _, _, _, _, _, _, _, _, _, _, _, _, _, _, _, _, _, _, _, _, _, _, _, _, _, _, _, _, _, _, _, _, _, _, _, _, _, _, _, _, _, _, _, _, _, _, _, _, _, _, rfl⟩)
          · obtain ⟨N, hN⟩ : ∃ N : Nat, x - 1 = (N : Int) := ⟨(x - 1).toNat, by omega⟩
            obtain rfl : x = (N : Int) + 1 := by omega
            have hNr : N ≤ r.length := by omega
            have t1 : ((N : Int) < 0) = False := eq_false (by omega)
            have t2 : ((r.length : Int) + 1 ≤ (N : Int)) = False := eq_false (by omega)
            have t3 : ((N : Int) + 1 ≤ (cr : Int)) = True := eq_true (by omega)
            have HBAD := Lib.hid hbad
            clear hN hbad e1
            by_cases hcr : cr = 1
            · subst hcr
              obtain rfl : r = [] := by
                cases r with
                | nil => rfl
                | cons y ys => simp at hrc'
              obtain rfl : N = 0 := by simpa using hNr
              have hD2 := HD.out
              unfold dec at hD2
              rw [if_neg HBAD.out] at hD2
              simp only [List.take_nil, List.not_mem_nil, if_false, List.length_nil, if_true, show (((0 : Nat) : Int) + 1 - 1).toNat = 0 from rfl] at hD2
              have hC0 : (Kd.int .u8).C w (some ad) 0 [] := C_take (m := 0) HC.out (Nat.zero_le _)
              obtain ⟨v1, w1, r1', S1, g1, a1'⟩ := run_app_row (P := Try.prog) (t := 22) (e := 5) (ty := 22) (c := 0) .u8 Try.underlying22 infoB (by decide) HO.out (Kd.C_below hC0 HB.out) (fun _ _ => trivial) HB.out.size (by simp; omega)
              obtain ⟨A1, c1, e1⟩ := Kd.R_slice S1
              rw [List.append_nil] at e1 S1
              subst e1
              have hb1 : Below w.heap.size w w1 := below_app HB.out g1 HB.out.size (fun q e => Kd.R_base HO.out q e)
              have HB1 := Lib.hid (And.intro hb1 S1)
              clear a1' g1 S1 hb1 HD t1 t2 t3 HBAD hNr hx hrc' hol' hfu' HC HI HN hC0
              go_wp2
              go_loop [33] (fun t => t = .int .i64 0) (fun t => 0)
              case atStart => rfl
              case round =>
                obtain rfl := hrel
                by_cases hf : full = true
                · subst hf
                  have hd : r1 = [] ∧ r2 = 12 := by
                    simp [told] at hD2
                    exact ⟨by rw [← hD2.1], by rw [← hD2.2]⟩
                  clear hD2
                  go_wp2_with (at_builtin; refine run_app (.tmp 40) (.tmp 44) 22 rfl rfl r1' ?_)
                  all_goals (refine wp_goto ?_; exact ⟨rfl, hd.1, hd.2, HB1.out.1, _, _, _, _, _, _, _, _, _, _, _, _, _, _, _, _, _, _, _, _, _, _, _, _, _, _, _, _, _, _, _, _, _, _, _, _, _, _, _, _, _, _, _, _, _, _, _, _, _, _, _, _, _, _, _, _, _, _, _, _, _, _, _, _, _, _, _, _, _, _, _, _, _, _, _, rfl⟩)
                · obtain rfl : full = false := by simpa using hf
                  have hd : r1 = out ∧ r2 = 0 := by
                    simp [told] at hD2
                    exact ⟨by rw [← hD2.1], by rw [← hD2.2]⟩
                  have HD1 := Lib.hid hd
                  have hfin : ∀ a3 : Act, (results Try.f11 a3.tmps).run Try.prog w1 = .ok (.tuple #[.slice A1 out.length c1, .int .i64 0]) w1 → a3.defers = [] → bodyPost Try.prog Try.f11 (fun e w' => ∃ v0_ : Value, e = .returned (.tuple #[v0_, .int .i64 r2]) ∧ (Kd.int .u8).R 5 w' w.heap.size (fun _ => True) v0_ r1 ∧ Below w.heap.size w w') .ret a3 w1 := fun a3 h1 h2 => bodyPost_ret h1 h2 ⟨_, by rw [HD1.out.2], by rw [HD1.out.1]; exact HB1.out.2, HB1.out.1⟩
                  have HFIN := Lib.hid hfin
                  clear hfin hD2 hd
                  go_wp2_with (at_builtin; refine run_app (.tmp 40) (.tmp 44) 22 rfl rfl r1' ?_)
                  all_goals exact HFIN.out _ (by simp [results, Try.results11, go_sem]) rfl
            · have t4 : (cr = 1) = False := eq_false hcr
              have hCp : (Kd.int .u8).C w (some (ad.add 1)) N (r.take N) := by
                have := C_piece HC.out rfl 1 N (by simp; omega)
                simpa using this
              have hCq : (Kd.int .u8).C w (some ⟨ad.block, ad.off + 1, none⟩) N (r.take N) := hCp
              go_wp2
              go_loop [33] (fun t => ∃ i : Nat, t = .int .i64 (i : Int) ∧ i ≤ N ∧ Hid (∀ j, j < i → rd (r.take N) (j : Int) ≠ 0)) (fun t => N - (intOf t).toNat)
              case atStart => exact ⟨0, rfl, Nat.zero_le _, Lib.hid (fun j h => absurd h (by omega))⟩
              case round =>
                obtain ⟨i, rfl, hiN, HNZ⟩ := hrel
                by_cases hlt : i < N
                · obtain ⟨ad2, e2, hcell2⟩ := Kd.at_int (Kd.C_below hCq HB.out) (i : Int) (by omega) (by omega)
                  obtain rfl := Option.some.inj e2
                  rw [Int.toNat_natCast, show (⟨ad.block, ad.off + 1, none⟩ : Addr).add i = ⟨ad.block, ad.off + 1 + i, none⟩ by simp [Addr.add]] at hcell2
                  have hlt2 : ((i : Int) < (N : Int)) = True := eq_true (by omega)
                  by_cases hz : rd (r.take N) (i : Int) = 0
                  · have hd : r1 = [] ∧ r2 = 12 := by
                      have := HD.out
                      unfold dec at this
                      have hm : (0 : Int) ∈ r.take N := by
                        have hl : i < (r.take N).length := by rw [List.length_take]; omega
                        rw [rd_get hl] at hz
                        rw [← hz]; exact List.getElem_mem hl
                      rw [if_neg HBAD.out, show ((N : Int) + 1 - 1).toNat = N by omega, if_pos hm] at this
                      simp [told] at this
                      exact ⟨by rw [← this.1], by rw [← this.2]⟩
                    rw [hz] at hcell2
                    clear HD hz
                    go_wp2
                    all_goals first | (exfalso; omega) | (refine wp_goto ?_; exact ⟨rfl, hd.1, hd.2, HB.out, _, _, _, _, _, _, _, _, _, _, _, _, _, _, _, _, _, _, _, _, _, _, _, _, _, _, _, _, _, _, _, _, _, _, _, _, _, _, _, _, _, _, _, _, _, _, _, _, _, _, _, _, _, _, _, _, _, _, _, _, _, _, _, _, _, _, _, _, _, _, _, _, _, _, _, rfl⟩)
                  · have hzb : (rd (r.take N) (i : Int) == 0) = false := by simpa using hz
                    have HZ := Lib.hid hz
                    clear hz
                    generalize hx2 : rd (r.take N) (i : Int) = x2 at *
                    have HX2 := Lib.hid hx2
                    clear hx2
                    go_wp2
                    go_round
                    case rel => exact ⟨i + 1, by first | rfl | simp, hlt, Lib.hid (fun j hj => by
                      rcases Nat.lt_or_ge j i with h | h
                      · exact HNZ.out j h
                      · rw [show j = i by omega, HX2.out]; exact HZ.out)⟩
                    case measure => simp [intOf]; omega
                · have hi : i = N := by omega
                  subst hi
                  have hlt2 : ((i : Int) < (i : Int)) = False := eq_false (by omega)
                  clear hlt
                  obtain ⟨v1, w1, r1', S1, g1, a1'⟩ := run_app_row (P := Try.prog) (t := 22) (e := 5) (ty := 22) (c := cr - 1) .u8 Try.underlying22 infoB (by decide) HO.out (Kd.C_below hCq HB.out) (fun _ _ => trivial) HB.out.size (by omega)
                  obtain ⟨A1, c1, e1⟩ := Kd.R_slice S1
                  have e2 : (out ++ r.take i).length = out.length + i := by rw [List.length_append, List.length_take]; omega
                  rw [e2] at e1
                  subst e1
                  have hb1 : Below w.heap.size w w1 := below_app HB.out g1 HB.out.size (fun q e => Kd.R_base HO.out q e)
                  have HB1 := Lib.hid (And.intro hb1 S1)
                  have HLE := Lib.hid e2
                  clear a1' g1 S1 hb1 e2
                  have hnz : ¬ (0 : Int) ∈ r.take i := by
                    intro hm
                    obtain ⟨j, hj, e⟩ := List.getElem_of_mem hm
                    exact HNZ.out j (by rw [List.length_take] at hj; omega) (by rw [rd_get hj]; exact e)
                  have hD2 := HD.out
                  unfold dec at hD2
                  rw [if_neg HBAD.out, show ((i : Int) + 1 - 1).toNat = i by omega, if_neg hnz] at hD2
                  clear HD hnz
                  by_cases hir : r.length = i
                  · rw [if_pos hir] at hD2
                    have z1 : r.length - i = 0 := by omega
                    have z2 : ((r.length : Int) + 1 - ((i : Int) + 1) = 0) := by omega
                    by_cases hf : full = true ∧ (i : Int) + 1 = 1
                    · rw [if_pos hf] at hD2
                      obtain ⟨rfl, hi1⟩ := hf
                      have hd : r1 = [] ∧ r2 = 12 := by
                        simp [told] at hD2
                        exact ⟨by rw [← hD2.1], by rw [← hD2.2]⟩
                      have hi0 : ((i : Int) == 0) = true := by simp; omega
                      clear hD2 hi1 z2
                      go_wp2_with (at_builtin; refine run_app (.tmp 40) (.tmp 44) 22 rfl rfl r1' ?_)
                      all_goals (refine wp_goto ?_; exact ⟨rfl, hd.1, hd.2, HB1.out.1, _, _, _, _, _, _, _, _, _, _, _, _, _, _, _, _, _, _, _, _, _, _, _, _, _, _, _, _, _, _, _, _, _, _, _, _, _, _, _, _, _, _, _, _, _, _, _, _, _, _, _, _, _, _, _, _, _, _, _, _, _, _, _, _, _, _, _, _, _, _, _, _, _, _, _, rfl⟩)
                    · rw [if_neg hf] at hD2
                      have hd : r1 = out ++ r.take i ∧ r2 = 0 := by
                        have e9 : r.take i = r := List.take_of_length_le (by omega)
                        rw [e9]
                        simp [told] at hD2
                        exact ⟨by rw [← hD2.1], by rw [← hD2.2]⟩
                      have hff : full = false ∨ ((i : Int) == 0) = false := by
                        rcases Bool.eq_false_or_eq_true full with h | h
                        · refine Or.inr ?_
                          have : ¬ (i : Int) + 1 = 1 := fun e => hf ⟨h, e⟩
                          simp; omega
                        · exact Or.inl h
                      have HD1 := Lib.hid hd
                      clear hD2 hf z2 hd
                      have hfin : ∀ a3 : Act, (results Try.f11 a3.tmps).run Try.prog w1 = .ok (.tuple #[.slice A1 (out.length + i) c1, .int .i64 0]) w1 → a3.defers = [] → bodyPost Try.prog Try.f11 (fun e w' => ∃ v0_ : Value, e = .returned (.tuple #[v0_, .int .i64 r2]) ∧ (Kd.int .u8).R 5 w' w.heap.size (fun _ => True) v0_ r1 ∧ Below w.heap.size w w') .ret a3 w1 := fun a3 h1 h2 => bodyPost_ret h1 h2 ⟨_, by rw [HD1.out.2], by rw [HD1.out.1]; exact HB1.out.2, HB1.out.1⟩
                      have HFIN := Lib.hid hfin
                      clear hfin
                      rcases hff with rfl | hff
                      · go_wp2_with (at_builtin; refine run_app (.tmp 40) (.tmp 44) 22 rfl rfl r1' ?_)
                        all_goals exact HFIN.out _ (by simp [results, Try.results11, go_sem]) rfl
                      · go_wp2_with (at_builtin; refine run_app (.tmp 40) (.tmp 44) 22 rfl rfl r1' ?_)
                        all_goals exact HFIN.out _ (by simp [results, Try.results11, go_sem]) rfl
                  · rw [if_neg hir] at hD2
                    have hil : i < r.length := by omega
                    have t6 : (cr = i + 1) = False := eq_false (by omega)
                    have z3 : (((r.length - i : Nat) : Int) == 0) = false := by simp; omega
                    have z4 : (r.length - i = 0) = False := eq_false (by omega)
                    have z5 : (r.length ≤ i) = False := eq_false (by omega)
                    have hCn : (Kd.int .u8).C w (some ⟨ad.block, ad.off + (i + 1), none⟩) (r.drop i).length (r.drop i) := by
                      have h1 := C_piece HC.out rfl (i + 1) (r.length - i) (by simp; omega)
                      have h2 : ((((i : Int) + 1) :: r).drop (i + 1)).take (r.length - i) = r.drop i := by
                        rw [List.drop_succ_cons, List.take_of_length_le (by rw [List.length_drop]; omega)]
                      rw [h2] at h1
                      rw [List.length_drop]
                      exact h1
                    have hIn : inByte (r.drop i) = true := by
                      have := HI.out
                      simp only [inByte, List.all_cons, List.all_eq_true, Bool.and_eq_true] at this ⊢
                      exact fun y hy => this.2 y (List.mem_of_mem_drop hy)
                    have hne : r.drop i ≠ [] := fun e => by have := congrArg List.length e; rw [List.length_drop] at this; simp at this; omega
                    have HCN := Lib.hid (And.intro hCn (And.intro hIn hne))
                    clear hCn hIn hne
                    by_cases h254 : i = 254
                    · rw [if_pos (by omega)] at hD2
                      subst h254
                      have HD2 := Lib.hid hD2
                      clear hD2 hir
                      go_wp2_with (at_builtin; refine run_app (.tmp 40) (.tmp 44) 22 rfl rfl r1' ?_)
                      refine ⟨⟨_, _, _, ⟨out ++ r.take 254, r.drop 254, true, A1, _, c1, _, fu, by rw [HLE.out], by rw [List.length_drop], rfl, by rw [List.length_drop]; omega, by rw [List.length_drop]; omega, by rw [List.length_drop, HLE.out]; omega, Lib.hid HCN.out.1, HD2, Lib.hid HCN.out.2.1, Lib.hid (by rw [HLE.out]; exact HB1.out.2), Lib.hid HCN.out.2.2, HB1.out.1⟩, rfl, rfl, rfl⟩, by simp [lenOf]; omega⟩
                    · rw [if_neg (by omega)] at hD2
                      have h254b : ((i : Int) == 254) = false := by simp; omega
                      have HD2 := Lib.hid hD2
                      clear hD2 hir
                      obtain ⟨v2, w2, r2', S2, g2, a2'⟩ := run_app_one (P := Try.prog) (t := 22) (e := 5) (ty := 22) (p := 0) (cs := [.int .u8 0]) (okp := fun _ => False) (Kd.int .u8) Try.underlying22 infoB rfl (by decide) (by decide) HB1.out.2 rfl (fun _ h => h.elim) (fun _ _ => trivial) HB1.out.1.size (by rw [List.length_append, List.length_take]; omega)
                      obtain ⟨A2, c2, e3⟩ := Kd.R_slice S2
                      have e4 : (out ++ r.take i ++ [0]).length = out.length + i + 1 := by rw [List.length_append, List.length_append, List.length_take, List.length_singleton]; omega
                      rw [e4] at e3
                      subst e3
                      have hb2 : Below w.heap.size w w2 := below_app HB1.out.1 g2 HB1.out.1.size (fun q e => Kd.R_base HB1.out.2 q e)
                      have HB2 := Lib.hid (And.intro hb2 S2)
                      have HLE2 := Lib.hid e4
                      clear a2' g2 S2 hb2 e4
                      go_wp2_with (at_builtin; first | (refine run_app (.tmp 40) (.tmp 44) 22 rfl rfl r1' ?_) | (refine run_app (.tmp 71) (.tmp 72) 22 rfl rfl r2' ?_))
                      refine ⟨⟨_, _, _, ⟨out ++ r.take i ++ [0], r.drop i, false, A2, _, c2, _, fu, by rw [HLE2.out], by rw [List.length_drop], rfl, by rw [List.length_drop]; omega, by rw [List.length_drop]; omega, by rw [List.length_drop, HLE2.out]; omega, Lib.hid HCN.out.1, HD2, Lib.hid HCN.out.2.1, Lib.hid (by rw [HLE2.out]; exact HB2.out.2), Lib.hid HCN.out.2.2, HB2.out.1⟩, rfl, rfl, rfl⟩, by simp [lenOf]; omega⟩
end Ext
end Go.Proofs.Ytmpampbpkcfdoaa
