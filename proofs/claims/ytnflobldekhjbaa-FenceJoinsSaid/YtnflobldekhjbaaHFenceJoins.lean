/- The segments of bytes, a 0, and others are those of both: FenceJoins answers true for all inputs. -/
import Derived.Test.YtnflobldekhjbaaLaws
import Derived.Test.YtnflobldekhjbaaPlain2
import Derived.RegionTactic
set_option linter.unusedVariables false
set_option linter.unusedSimpArgs false
namespace Go.Proofs.Ytnflobldekhjbaa.P
open Go.RowKit Go.Proofs.YtnflobldekhjbaaW.PrintWords Go.Proofs.YtnflobldekhjbaaW.PrintMore Go.Proofs.Ytnflobldekhjbaa.Ext Go.Proofs.Ytnflobldekhjbaa
attribute [local go_sem] max2_int min2_int max_two min_two max_three min_three max_four min_four

theorem split_f {l : List Int} (h : l.length ≤ 1000000) : fence_Split.f l = some ((segs l).map (·.2), opn [] l) := if_pos h

/-- append(append([]byte{}, a...), 0). -/
theorem pre_zero (X : World) (A : Option Addr) (c : Nat) (la : List Int) (hC : (Kd.int .u8).C X A la.length la) (hl : la.length ≤ 300) : ∃ A1 c1 x1 A2 c2 x2 lz, lz = la ++ [0] ∧ lz.length = la.length + 1 ∧
    (Builtin.append_ #[22, 22] 22 #[.slice (some ⟨X.heap.size, 0, none⟩) 0 0, .slice A la.length c]).run Try.prog (X.alloc (.cells #[] 5)) = .ok (.slice A1 la.length c1) x1 ∧
    (Builtin.append_ #[22, 22] 22 #[.slice A1 la.length c1, .slice (some ⟨x1.heap.size, 0, none⟩) 1 1]).run Try.prog (x1.alloc (.cells #[.int .u8 0] 5)) = .ok (.slice A2 lz.length c2) x2 ∧
    lz.length ≤ c2 ∧ (Kd.int .u8).R 5 x2 X.heap.size (fun _ => True) (.slice A2 lz.length c2) lz ∧ (Kd.int .u8).C x2 A2 lz.length lz ∧ Below X.heap.size X x2 := by
  obtain ⟨v1, x1, r1, R1, g1, _⟩ := run_app_row (P := Try.prog) (t := 22) (e := 5) (ty := 22) (c := c) .u8 Try.underlying22 infoB (by decide) (R_empty (Kd.int .u8) 5 X X.heap.size (Nat.le_refl _) (fun _ => True) trivial) (Kd.C_alloc hC _) (fun _ _ => trivial) (by simp) (by simp; omega)
  rw [List.nil_append] at R1
  have b1 : Below X.heap.size X x1 := ((Below.refl _ X).alloc (Nat.le_refl _) _).grown g1 (by simp) (fun k e => by cases e; exact Nat.le_refl _)
  obtain ⟨A1, c1, rfl⟩ := Kd.R_slice R1
  obtain ⟨v2, x2, r2, R2, g2, _⟩ := run_app_one (P := Try.prog) (t := 22) (e := 5) (ty := 22) (p := 0) (cs := [.int .u8 0]) (okp := fun _ => False) (Kd.int .u8) Try.underlying22 infoB rfl (by decide) (by decide) R1 rfl (fun _ h => h.elim) (fun _ _ => trivial) b1.size (by omega)
  obtain ⟨A2, c2, rfl, hc2, C2⟩ := Kd.R_reads R2
  exact ⟨A1, c1, x1, A2, c2, x2, la ++ [0], rfl, by simp, r1, r2, hc2, R2, C2, below_app b1 g2 b1.size (fun q e => Kd.R_base R1 q e)⟩

/-- append(.., b...) behind it. -/
theorem pre_more (X x2 : World) (A2 : Option Addr) (c2 : Nat) (lz : List Int) (R2 : (Kd.int .u8).R 5 x2 X.heap.size (fun _ => True) (.slice A2 lz.length c2) lz) (b2 : Below X.heap.size X x2) (B : Option Addr) (cb : Nat) (lb : List Int) (hB : (Kd.int .u8).C x2 B lb.length lb) (hl : lz.length ≤ 301) (hl2 : lb.length ≤ 300) : ∃ A3 c3 x3 lj, lj = lz ++ lb ∧ lj.length = lz.length + lb.length ∧
    (Builtin.append_ #[22, 22] 22 #[.slice A2 lz.length c2, .slice B lb.length cb]).run Try.prog x2 = .ok (.slice A3 lj.length c3) x3 ∧ lj.length ≤ c3 ∧ (Kd.int .u8).C x3 A3 lj.length lj ∧ Below X.heap.size X x3 := by
  obtain ⟨v3, x3, r3, R3, g3, _⟩ := run_app_row (P := Try.prog) (t := 22) (e := 5) (ty := 22) (c := cb) .u8 Try.underlying22 infoB (by decide) R2 hB (fun _ _ => trivial) b2.size (by omega)
  obtain ⟨A3, c3, rfl, hc3, C3⟩ := Kd.R_reads R3
  exact ⟨A3, c3, x3, lz ++ lb, rfl, by simp, r3, hc3, C3, below_app b2 g3 b2.size (fun q e => Kd.R_base R2 q e)⟩

/-- append(append([][]byte{}, x...), y...). -/
theorem pre_rows (X : World) (A : Option Addr) (c : Nat) (la : List (List Int)) (hA : (Kd.slice 5 (Kd.int .u8)).C X A la.length la) (B : Option Addr) (cb : Nat) (lb : List (List Int)) (hB : (Kd.slice 5 (Kd.int .u8)).C X B lb.length lb) (hl : la.length ≤ 10000) (hl2 : lb.length ≤ 10000) :
    ∃ A1 c1 x1 A2 c2 x2 lj, lj = la ++ lb ∧
    (Builtin.append_ #[23, 23] 23 #[.slice (some ⟨X.heap.size, 0, none⟩) 0 0, .slice A la.length c]).run Try.prog (X.alloc (.cells #[] 22)) = .ok (.slice A1 la.length c1) x1 ∧
    (Builtin.append_ #[23, 23] 23 #[.slice A1 la.length c1, .slice B lb.length cb]).run Try.prog x1 = .ok (.slice A2 lj.length c2) x2 ∧ lj.length ≤ c2 ∧ (Kd.slice 5 (Kd.int .u8)).C x2 A2 lj.length lj ∧ Below X.heap.size X x2 := by
  have hone : ∀ {W : World} (p : List Int) (u : Value), (Kd.slice 5 (Kd.int .u8)).K W p [u] → u.oneCell' = true := fun p u h => (Kd.slice 5 (Kd.int .u8)).K_one h u (by simp)
  obtain ⟨ca, v1, x1, ka, hca, r1, o1, g1, _⟩ := run_app_cells (P := Try.prog) (t := 23) (e := 22) (ty := 23) (c := c) (os := []) (base := X.heap.size) Try.underlying23 infoS rfl (by decide) rfl (World.ownsRow_lit X #[] 0 (Nat.le_refl _) (by simp [maxLen]) (by simp)) ((Below.refl _ X).alloc (Nat.le_refl _) _) hA (fun p u h => hone p u h) (by simp) (by simp; omega)
  rw [List.nil_append] at o1
  have b1 : Below X.heap.size X x1 := ((Below.refl _ X).alloc (Nat.le_refl _) _).grown g1 (by simp) (fun k e => by cases e; exact Nat.le_refl _)
  obtain ⟨A1, c1, e1⟩ := own_slice o1
  rw [hca] at e1
  subst e1
  obtain ⟨cb', v2, x2, kb, hcb, r2, o2, g2, _⟩ := run_app_cells (P := Try.prog) (t := 23) (e := 22) (ty := 23) (c := cb) (os := ca) (base := X.heap.size) Try.underlying23 infoS rfl (by decide) rfl o1 b1 hB (fun p u h => hone p u h) b1.size (by rw [hca]; omega)
  have b2 : Below X.heap.size X x2 := below_app b1 g2 b1.size (fun q e => own_base o1 q e)
  obtain ⟨A2, c2, e2⟩ := own_slice o2
  have hl3 : (ca ++ cb').length = (la ++ lb).length := by rw [List.length_append, List.length_append, hca, hcb]
  rw [hl3] at e2 o2
  subst e2
  have hc2 : (la ++ lb).length ≤ c2 := own_cap o2
  refine ⟨A1, c1, x1, A2, c2, x2, la ++ lb, rfl, r1, r2, hc2, C_of_own rfl o2 (by simp; omega) rfl (fun j p hj => ?_), b2⟩
  rcases Nat.lt_or_ge j la.length with h | h
  · rw [List.getElem?_append_left h] at hj
    obtain ⟨u, hu, hK⟩ := ka j p hj
    refine ⟨u, by rw [List.getElem?_append_left (by omega)]; exact hu, (Kd.slice 5 (Kd.int .u8)).K_below b2 hK⟩
  · rw [List.getElem?_append_right h] at hj
    obtain ⟨u, hu, hK⟩ := kb _ p hj
    refine ⟨u, by rw [List.getElem?_append_right (by omega), hca]; exact hu, (Kd.slice 5 (Kd.int .u8)).K_below b2 hK⟩

set_option maxRecDepth 100000 in
set_option maxHeartbeats 4000000 in
theorem cuneiformlaw06_FenceJoins.walk (a0 : Option Addr) (len0 cap0 : Nat) (z0 : List Int) (a1 : Option Addr) (len1 cap1 : Nat) (z1 : List Int) (w : World) (w0 : (a0 = none ∧ len0 = 0 ∧ cap0 = 0 ∧ z0 = []) ∨ ∃ x, a0 = some x ∧ len0 ≤ cap0 ∧ cap0 ≤ maxLen ∧ z0.length = cap0 ∧ (∀ i, i < z0.length → w.cell? (x.add i) = some (.int .u8 (z0.getD i 0))) ∧ ∀ n ∈ z0, (Lit.int .u8 n).wf = true) (y0 : len0 * 1 ≤ 140737488351232) (w1 : (a1 = none ∧ len1 = 0 ∧ cap1 = 0 ∧ z1 = []) ∨ ∃ x, a1 = some x ∧ len1 ≤ cap1 ∧ cap1 ≤ maxLen ∧ z1.length = cap1 ∧ (∀ i, i < z1.length → w.cell? (x.add i) = some (.int .u8 (z1.getD i 0))) ∧ ∀ n ∈ z1, (Lit.int .u8 n).wf = true) (y1 : len1 * 1 ≤ 140737488351232) :
    Calls Try.prog 3 #[.slice a0 len0 cap0, .slice a1 len1 cap1] w fun e w' => e = .returned (.bool true) ∧ Below w.heap.size w w' := by
  obtain ⟨l0, rfl, hr0, hm0, hw0, hc0⟩ := ReadsInt.ofRowC w0
  obtain ⟨l1, rfl, hr1, hm1, hw1, hc1⟩ := ReadsInt.ofRowC w1
  have C0 : (Kd.int .u8).C w a0 l0.length l0 := Kd.C_of_reads (d := (0 : Int)) (h1 := fun _ => rfl) hr0
  have C1 : (Kd.int .u8).C w a1 l1.length l1 := Kd.C_of_reads (d := (0 : Int)) (h1 := fun _ => rfl) hr1
  have e0 : (if (300 : Int) < (l0.length : Int) then (300 : Int) else (l0.length : Int)).toNat = (l0.take 300).length := by rw [List.length_take]; split <;> omega
  have e1 : (if (300 : Int) < (l1.length : Int) then (300 : Int) else (l1.length : Int)).toNat = (l1.take 300).length := by rw [List.length_take]; split <;> omega
  have D0 : (Kd.int .u8).C w.drew a0 (l0.take 300).length (l0.take 300) := by
    rcases Nat.le_total l0.length 300 with h | h
    · rw [List.take_of_length_le h]; exact Kd.C_drew C0
    · have := C_take (m := 300) (Kd.C_drew C0) h; rwa [List.length_take, Nat.min_eq_left h]
  have D1 : (Kd.int .u8).C w.drew a1 (l1.take 300).length (l1.take 300) := by
    rcases Nat.le_total l1.length 300 with h | h
    · rw [List.take_of_length_le h]; exact Kd.C_drew C1
    · have := C_take (m := 300) (Kd.C_drew C1) h; rwa [List.length_take, Nat.min_eq_left h]
  have E0 := Lib.hid e0
  have E1 := Lib.hid e1
  have hla : (l0.take 300).length ≤ 300 := by simp; omega
  have hlb : (l1.take 300).length ≤ 300 := by simp; omega
  have hca : (l0.take 300).length ≤ cap0 := by simp; omega
  have hcb : (l1.take 300).length ≤ cap1 := by simp; omega
  clear w0 w1 hr0 hr1 hw0 hw1 hm0 hm1 e0 e1 C0 C1
  go_enter Try.func3, Try.ntmps3
  go_wp2
  go_region
  rw [E0.out, E1.out]
  generalize (if (300 : Int) < (l0.length : Int) then (300 : Int) else (l0.length : Int)) = g0
  generalize (if (300 : Int) < (l1.length : Int) then (300 : Int) else (l1.length : Int)) = g1
  clear E0 E1 hc0 hc1 y0 y1
  generalize l0.take 300 = la at *
  generalize l1.take 300 = lb at *
  obtain ⟨X, hX⟩ : ∃ X, w.drew = X := ⟨_, rfl⟩
  have bX : Below w.heap.size w X := by rw [← hX]; exact (Below.refl _ w).drew
  rw [hX] at D0 D1 ⊢
  clear hX
  obtain ⟨A1, c1, x1, A2, c2, x2, lz, hlz, hlz2, r1, r2, hc2, R2, C2, b2⟩ := pre_zero X a0 cap0 la D0 hla
  have HR := Lib.hid R2
  have HC := Lib.hid C2
  have HB := Lib.hid b2
  have HLZ := Lib.hid hlz
  have HL2 := Lib.hid hlz2
  have hb2s := b2.size
  clear R2 C2 b2 hlz hlz2
  go_wp2_with (at_builtin; first | (refine run_app (.tmp 22) (.tmp 23) 22 rfl rfl r1 ?_) | (refine run_app (.tmp 24) (.tmp 25) 22 rfl rfl r2 ?_))
  have hf1 : fence_Split.f lz = some ((segs lz).map (·.2), []) := by
    rw [split_f (by have := HL2.out; omega), HLZ.out, opn_join]; rfl
  have hsg : ((segs lz).map (·.2)).length ≤ 301 := by rw [List.length_map]; exact Nat.le_trans (sgo_len _ _ _) (by have := HL2.out; omega)
  generalize hrx : (segs lz).map (·.2) = rx at *
  have HRX := Lib.hid hrx
  clear hrx
  refine (fence_Split.calls A2 c2 lz rx [] x2 HC.out hc2 hf1).mono ?_
  rintro e x3 ⟨v0, v1, rfl, S3, R3, B3⟩
  obtain ⟨Ax, cx, rfl, hcx, Cx⟩ := Kd.S_reads S3
  obtain ⟨Ao, co, rfl, hco, Co⟩ := Kd.R_reads R3
  rw [List.length_nil]
  have HB3 := Lib.hid (bX.trans ((HB.out.mono bX.size).trans (B3.mono (Nat.le_trans bX.size hb2s))))
  have HX3 := Lib.hid (HB.out.trans (B3.mono hb2s))
  have HCx := Lib.hid Cx
  clear S3 R3 B3 Cx Co hco HR HC r1 r2 hf1
  go_wp2_with (fail)
  have hf2 : fence_Split.f lb = some ((segs lb).map (·.2), opn [] lb) := split_f (by omega)
  have hsg2 : ((segs lb).map (·.2)).length ≤ 300 := by rw [List.length_map]; exact Nat.le_trans (sgo_len _ _ _) (by omega)
  have hop2 : (opn [] lb).length ≤ 300 := Nat.le_trans (opn_len lb []) (by simpa using hlb)
  generalize hry : (segs lb).map (·.2) = ry at *
  generalize hrl : opn [] lb = rl at *
  have HRY := Lib.hid hry
  have HRL := Lib.hid hrl
  clear hry hrl
  have D1' := Lib.hid (Kd.C_below D1 HX3.out)
  have D0' := Lib.hid (Kd.C_below D0 HX3.out)
  clear D0 D1
  refine (fence_Split.calls a1 cap1 lb ry rl x3 D1'.out hcb hf2).mono ?_
  rintro e x4 ⟨v0, v1, rfl, S4, R4, B4⟩
  obtain ⟨Ay, cy, rfl, hcy, Cy⟩ := Kd.S_reads S4
  obtain ⟨Al, cl, rfl, hcl, Cl⟩ := Kd.R_reads R4
  have E0' := Lib.hid (Kd.C_below D0'.out B4)
  have E1' := Lib.hid (Kd.C_below D1'.out B4)
  have HCx4 := Lib.hid (Kd.C_below HCx.out B4)
  have HCy := Lib.hid Cy
  have HCl := Lib.hid Cl
  have HB4 := Lib.hid (HB3.out.trans (B4.mono HB3.out.size))
  clear S4 R4 B4 Cy Cl D0' D1' HCx hf2
  obtain ⟨A5, c5, x5, A6, c6, x6, lz', hlz', hlz2', r5, r6, hc6, R6, C6, b6⟩ := pre_zero x4 a0 cap0 la E0'.out hla
  obtain ⟨A7, c7, x7, lj, hlj, hlj2, r7, hc7, C7, b7⟩ := pre_more x4 x6 A6 c6 lz' R6 b6 a1 cap1 lb (Kd.C_below E1'.out b6) (by omega) hlb
  have hf3 : fence_Split.f lj = some (rx ++ ry, rl) := by
    have e : lj = la ++ 0 :: lb := by rw [hlj, hlz']; simp
    rw [split_f (by omega), e, opn_join, HRL.out, segs_join, HRY.out, ← HLZ.out, HRX.out]
  have HCx7 := Lib.hid (Kd.C_below HCx4.out b7)
  have HCy7 := Lib.hid (Kd.C_below HCy.out b7)
  have HCl7 := Lib.hid (Kd.C_below HCl.out b7)
  have HC7 := Lib.hid C7
  have HB7 := Lib.hid (HB4.out.trans (b7.mono HB4.out.size))
  have hsz : (rx ++ ry).length = rx.length + ry.length := by simp
  generalize hrz : rx ++ ry = rz at *
  have HRZ := Lib.hid hrz
  clear hrz R6 C6 b6 b7 C7 E0' E1' HCx4 HCy HCl hlz' hlz2' hlj hlj2
  have HSZ := Lib.hid hsz
  clear hsz
  go_wp2_with (at_builtin; first | (refine run_app (.tmp 36) (.tmp 37) 22 rfl rfl r5 ?_) | (refine run_app (.tmp 38) (.tmp 39) 22 rfl rfl r6 ?_) | (refine run_app (.tmp 40) (.tmp 41) 22 rfl rfl r7 ?_))
  refine (fence_Split.calls A7 c7 lj rz rl x7 HC7.out hc7 hf3).mono ?_
  rintro e x8 ⟨v0, v1, rfl, S8, R8, B8⟩
  obtain ⟨Az, cz, rfl, hcz, Cz⟩ := Kd.S_reads S8
  obtain ⟨Ae, ce, rfl, hce, Ce⟩ := Kd.R_reads R8
  have F1 := Lib.hid (Kd.C_below HCx7.out B8)
  have F2 := Lib.hid (Kd.C_below HCy7.out B8)
  have F3 := Lib.hid (Kd.C_below HCl7.out B8)
  have F4 := Lib.hid Cz
  have F5 := Lib.hid Ce
  have HB8 := Lib.hid (HB7.out.trans (B8.mono HB7.out.size))
  clear S8 R8 B8 Cz Ce HCx7 HCy7 HCl7 HC7 r5 r6 r7 hf3
  go_wp2_with (fail)
  obtain ⟨kk, hkk⟩ := known_true
  refine (cuneiformlaw06_known.calls kk true x8 hkk).mono ?_
  rintro e x9 ⟨rfl, B9⟩
  have G1 := Lib.hid (Kd.C_below F1.out B9)
  have G2 := Lib.hid (Kd.C_below F2.out B9)
  have G3 := Lib.hid (Kd.C_below F3.out B9)
  have G4 := Lib.hid (Kd.C_below F4.out B9)
  have G5 := Lib.hid (Kd.C_below F5.out B9)
  have HB9 := Lib.hid (HB8.out.trans (B9.mono HB8.out.size))
  clear F1 F2 F3 F4 F5 B9 hkk
  go_wp2_with (fail)
  refine (cuneiformref01_Same.calls (rl.length + 1) Al cl rl Ae ce rl true x9 G3.out hcl G5.out hce (same_self rl (by omega) _ (by omega))).mono ?_
  rintro e x10 ⟨rfl, D10⟩
  have B10 := D10.below
  obtain ⟨A11, c11, x11, A12, c12, x12, lq, hlq, r11, r12, hc12, C12, b12⟩ := pre_rows x10 Ax cx rx (Kd.C_below G1.out B10) Ay cy ry (Kd.C_below G2.out B10) (by omega) (by omega)
  have e12 : lq = rz := by rw [hlq, HRZ.out]
  subst e12
  have K1 := Lib.hid (Kd.C_below (Kd.C_below G4.out B10) b12)
  have K2 := Lib.hid C12
  have HB12 := Lib.hid (HB9.out.trans ((B10.mono HB9.out.size).trans (b12.mono (Nat.le_trans HB9.out.size B10.size))))
  clear G1 G2 G3 G4 G5 B10 D10 b12 C12 hlq
  go_wp2_with (at_builtin; first | (refine run_app (.tmp 59) (.tmp 60) 23 (by kernel_rfl) rfl r11 ?_) | (refine run_app (.tmp 61) (.tmp 62) 23 (by kernel_rfl) rfl r12 ?_))
  have hin : ∀ x ∈ lq, x.length ≤ 700 := by
    intro x hx
    rw [← HRZ.out, ← HRX.out, ← HRY.out, List.mem_append, List.mem_map, List.mem_map] at hx
    have h2 := HL2.out
    rcases hx with ⟨y, hy, rfl⟩ | ⟨y, hy, rfl⟩
    · have := sgo_mem _ _ _ y hy; simp at this; omega
    · have := sgo_mem _ _ _ y hy; simp at this; omega
  refine (cuneiformlaw06_Lists.calls (lq.length + 702) Az cz lq A12 c12 lq true x12 K1.out hcz K2.out hc12 (lists_self lq 700 (by omega) (by have := HSZ.out; omega) hin _ (by omega))).mono ?_
  rintro e x13 ⟨rfl, D13⟩
  have HB13 := Lib.hid (HB12.out.trans (D13.below.mono HB12.out.size))
  clear D13
  go_wp2
  go_ret
  exact ⟨rfl, HB13.out⟩
end Go.Proofs.Ytnflobldekhjbaa.P
