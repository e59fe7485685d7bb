/- Stuffed bytes without their last one, or with one more: CobsCuts answers true for all inputs. -/
import Derived.Test.YtmpampbpkcfdoaaSam
set_option linter.unusedVariables false
set_option linter.unusedSimpArgs false
namespace Go.Proofs.Ytmpampbpkcfdoaa.P
open Go.RowKit Go.Proofs.YtmpampbpkcfdoaaW.PrintWords Go.Proofs.YtmpampbpkcfdoaaW.PrintMore Go.Proofs.Ytmpampbpkcfdoaa.Ext Go.Proofs.Ytmpampbpkcfdoaa
attribute [local go_sem] max2_int min2_int max_two min_two max_three min_three max_four min_four
attribute [local go_sem] Oper.semAt_some

set_option maxRecDepth 100000 in
set_option maxHeartbeats 4000000 in
theorem cuneiformlaw05_CobsCuts.walk (a0 : Option Addr) (len0 cap0 : Nat) (z0 : List Int) (a1 : Int) (w : World) (w0 : (a0 = none ∧ len0 = 0 ∧ cap0 = 0 ∧ z0 = []) ∨ ∃ x, a0 = some x ∧ len0 ≤ cap0 ∧ cap0 ≤ maxLen ∧ z0.length = cap0 ∧ (∀ i, i < z0.length → w.cell? (x.add i) = some (.int .u8 (z0.getD i 0))) ∧ ∀ n ∈ z0, (Lit.int .u8 n).wf = true) (y0 : len0 * 1 ≤ 140737488351232) (w1 : (Lit.int .u8 a1).wf = true) :
    Calls Try.prog 4 #[.slice a0 len0 cap0, .int .u8 a1] w fun e w' => e = .returned (.bool true) ∧ Below w.heap.size w w' := by
  obtain ⟨l0, rfl, hr0, hm0, hw0, hc0⟩ := ReadsInt.ofRowC w0
  have C0 : (Kd.int .u8).C w a0 l0.length l0 := Kd.C_of_reads (d := (0 : Int)) (h1 := fun _ => rfl) hr0
  have e0 : (if (1000 : Int) < (l0.length : Int) then (1000 : Int) else (l0.length : Int)).toNat = (l0.take 1000).length := by rw [List.length_take]; split <;> omega
  have D0 : (Kd.int .u8).C w a0 (l0.take 1000).length (l0.take 1000) := by
    rcases Nat.le_total l0.length 1000 with h | h
    · rw [List.take_of_length_le h]; exact C0
    · have := C_take (m := 1000) (C0) h; rwa [List.length_take, Nat.min_eq_left h]
  have hm : (if (1000 : Int) < (l0.length : Int) then (1000 : Int) else (l0.length : Int)) = ((l0.take 1000).length : Int) := by rw [List.length_take]; split <;> omega
  have hla : (l0.take 1000).length ≤ 1000 := by simp; omega
  have hca : (l0.take 1000).length ≤ cap0 := by simp; omega
  have hcl : ((l0.take 1000).length ≤ l0.length) = True := eq_true (by simp; omega)
  have hcc : ((l0.take 1000).length ≤ cap0) = True := eq_true hca
  have hin : inByte (l0.take 1000) = true := by
    rw [inByte_iff]
    intro x hx
    exact wf_byte (hw0 x (List.mem_of_mem_take hx))
  generalize l0.take 1000 = la at *
  clear w0 hr0 hw0 hm0 e0 C0
  have hmore : 0 ≤ a1 ∧ a1 < 256 := wf_byte w1
  have hpos := enc_pos la
  have hlen : (enc (blks la)).length ≤ 1010 := by rw [enc_len]; have := szs_most la; omega
  have hby := enc_byte la hin
  have hno := enc_no0 la
  obtain ⟨s, hs⟩ : ∃ s, enc (blks la) = s := ⟨_, rfl⟩
  have hse : cobs_Encode.f la = some s := by rw [← hs]; exact enc_f la (by omega)
  rw [hs] at hpos hlen hby hno
  obtain ⟨s1, hs1⟩ : ∃ s1, s.take (s.length - 1) = s1 := ⟨_, rfl⟩
  have hsl : s.length = s1.length + 1 := by rw [← hs1, List.length_take]; omega
  have hb1 : inByte s1 = true := by rw [inByte_iff] at *; rw [← hs1]; exact fun x hx => hby x (List.mem_of_mem_take hx)
  have hb2 : inByte (s ++ [a1]) = true := by rw [inByte_iff] at *; intro x hx; rcases List.mem_append.1 hx with h | h; exact hby x h; rw [List.mem_singleton.1 h]; exact hmore
  obtain ⟨r1, q1, hd1⟩ : ∃ r q, decoded s1 = (r, q) := ⟨_, _, rfl⟩
  obtain ⟨r2, q2, hd2⟩ : ∃ r q, decoded (s ++ [a1]) = (r, q) := ⟨_, _, rfl⟩
  have hf1 : cobs_Decode.f s1 = some (r1, q1) := by rw [dec_f s1 (by omega) hb1, hd1]
  have hf2 : cobs_Decode.f (s ++ [a1]) = some (r2, q2) := by rw [dec_f _ (by simp; omega) hb2, hd2]
  have hc1 : (r1 = [] ∧ q1 = 12) ∨ (q1 = 0 ∧ r1 ≠ la ∧ r1.length ≤ 2000) := by
    rcases decoded_ok s1 hb1 with ⟨e, _⟩ | ⟨b, e, hb⟩
    · rw [hd1] at e; exact .inl ⟨congrArg (·.1) e, congrArg (·.2) e⟩
    · rw [hd1] at e
      obtain rfl : r1 = b := congrArg (·.1) e
      refine .inr ⟨congrArg (·.2) e, fun h => ?_, ?_⟩
      · subst h; have := congrArg List.length (hs.symm.trans hb); omega
      · have := szs_ge r1; have := congrArg List.length hb; rw [enc_len] at this; omega
  have hc2 : (r2 = [] ∧ q2 = 12) ∨ (q2 = 0 ∧ r2 ≠ la ∧ r2.length ≤ 2000 ∧ a1 ≠ 0) := by
    rcases decoded_ok _ hb2 with ⟨e, _⟩ | ⟨b, e, hb⟩
    · rw [hd2] at e; exact .inl ⟨congrArg (·.1) e, congrArg (·.2) e⟩
    · rw [hd2] at e
      obtain rfl : r2 = b := congrArg (·.1) e
      refine .inr ⟨congrArg (·.2) e, fun h => ?_, ?_, fun h => ?_⟩
      · subst h; have := congrArg List.length (hs.symm.trans hb); simp at this
      · have := szs_ge r2; have := congrArg List.length hb; rw [enc_len] at this; simp at this; omega
      · have := enc_no0 r2; rw [hb, h] at this; simp at this
  have hC := Lib.hid (And.intro hc1 (And.intro hc2 (And.intro hs1 hmore)))
  clear hs hc1 hc2 hd1 hd2 hb1 hb2 hby hno hs1 hin
  go_enter Try.func4, Try.ntmps4
  go_wp2_with (fail)
  refine (cobs_Encode.calls a0 cap0 la s w D0 hca hse).mono ?_
  rintro e x1 ⟨v0, rfl, S1, B1⟩
  obtain ⟨As, cs, rfl, hcs, Cs⟩ := Kd.R_reads S1
  clear S1 hm hcl hcc hse
  have Cs1 : (Kd.int .u8).C x1 As s1.length s1 := by
    have h := C_take (m := s.length - 1) Cs (by omega)
    rw [hC.out.2.2.1] at h
    rwa [show s.length - 1 = s1.length by omega] at h
  have HB1 := Lib.hid B1
  have HCS := Lib.hid Cs
  have HSL := Lib.hid hsl
  rw [hsl] at hlen hpos hcs ⊢
  have hcs2 : (s1.length ≤ cs) = True := eq_true (by omega)
  clear B1 Cs hsl
  have hw1 : wrap64 (s1.length : Int) = (s1.length : Int) := by unfold wrap64; omega
  go_wp2_with (fail)
  refine (cobs_Decode.calls As cs s1 r1 q1 x1 Cs1 (by omega) hf1).mono ?_
  rintro e x2 ⟨v1, rfl, S2, B2⟩
  obtain ⟨Ar, cr, rfl, hcr, Cr⟩ := Kd.R_reads S2
  have hsz1 := HB1.out.size
  have HB2 := Lib.hid (And.intro (HB1.out.trans (B2.mono hsz1)) (And.intro Cr B2))
  clear S2 Cr hw1 hf1 Cs1
  have Cs2 : (Kd.int .u8).C x2 As s.length s := Kd.C_below HCS.out B2
  obtain ⟨v3, w3, hr3, S3, g3, a3⟩ := run_app_row (P := Try.prog) (t := 22) (e := 5) (ty := 22) (c := cs) .u8 Try.underlying22 infoB (by decide) (R_empty (Kd.int .u8) 5 x2 x2.heap.size (Nat.le_refl _) (fun _ => True) trivial) (Kd.C_alloc Cs2 _) (fun _ _ => trivial) (by simp) (by simp [HSL.out]; omega)
  obtain ⟨A3, c3, e3⟩ := Kd.R_slice S3
  rw [List.nil_append] at e3 S3
  subst e3
  have b3 : Below x2.heap.size x2 w3 := ((Below.refl _ x2).alloc (Nat.le_refl _) _).grown g3 (by simp) (fun k e => by simp [Value.ownBlock] at e; omega)
  obtain ⟨v4, w4, hr4, S4, g4, a4⟩ := run_app_one (P := Try.prog) (t := 22) (e := 5) (ty := 22) (p := a1) (cs := [.int .u8 a1]) (okp := fun _ => False) (Kd.int .u8) Try.underlying22 infoB rfl (by decide) (by decide) S3 rfl (fun _ h => h.elim) (fun _ _ => trivial) b3.size (by rw [HSL.out]; omega)
  obtain ⟨A4, c4, e4⟩ := Kd.R_slice S4
  have hl4 : (s ++ [a1]).length = s1.length + 2 := by simp [HSL.out]
  have b4 : Below x2.heap.size x2 w4 := below_app b3 g4 b3.size (fun q e => Kd.R_base S3 q e)
  obtain ⟨A4', c4', e4', hc4, C4⟩ := Kd.R_reads S4
  have HB4 := Lib.hid (And.intro b4 C4)
  have HE4 := Lib.hid (And.intro e4 e4')
  rw [HSL.out] at hr3 hr4
  clear a3 a4 g3 g4 S3 S4 b3 b4 C4 e4 e4' Cs2
  go_wp2_with (at_builtin; first | (refine run_app (.tmp 30) (.tmp 31) 22 rfl rfl hr3 ?_) | (refine run_app (.tmp 32) (.tmp 34) 22 rfl rfl hr4 ?_))
  have ev := HE4.out.2
  subst ev
  refine (cobs_Decode.calls A4' c4' (s ++ [a1]) r2 q2 w4 HB4.out.2 hc4 hf2).mono ?_
  rintro e x3 ⟨v5, rfl, S5, B5⟩
  obtain ⟨A5, c5, rfl, hc5, C5⟩ := Kd.R_reads S5
  have b35 : Below x2.heap.size x2 x3 := HB4.out.1.trans (B5.mono HB4.out.1.size)
  have bx2 : Below w.heap.size w x2 := HB2.out.1
  have bw3 : Below w.heap.size w x3 := bx2.trans (b35.mono bx2.size)
  have hbK : Below x3.heap.size x3 x3 := Below.refl _ _
  obtain ⟨kk, hkk⟩ := known_true
  have K8 : ∀ X, Below x3.heap.size x3 X → Calls Try.prog 8 #[] X fun e w' => e = .returned (.bool true) ∧ Below x3.heap.size x3 w' := fun X hX => (cuneiformlaw05_known.calls kk true X hkk).mono fun e w' h => ⟨h.1, hX.trans (h.2.mono hX.size)⟩
  have C1 : (Kd.int .u8).C x3 Ar r1.length r1 := Kd.C_below HB2.out.2.1 b35
  have C0 : (Kd.int .u8).C x3 a0 la.length la := Kd.C_below D0 bw3
  have K12a : r1 ≠ la → r1.length ≤ 2000 → ∀ X, Below x3.heap.size x3 X → Calls Try.prog 12 #[.slice Ar r1.length cr, .slice a0 la.length cap0] X fun e w' => e = .returned (.bool false) ∧ Below x3.heap.size x3 w' := fun hne hl X hX =>
    (cuneiformref01_Same.calls (r1.length + 1) Ar cr r1 a0 cap0 la false X (Kd.C_below C1 hX) hcr (Kd.C_below C0 hX) hca (by rw [same_f _ _ (by omega) _ (by omega), decide_eq_false hne])).mono fun e w' h => ⟨h.1, hX.trans (h.2.below.mono hX.size)⟩
  have K12b : r2 ≠ la → r2.length ≤ 2000 → ∀ X, Below x3.heap.size x3 X → Calls Try.prog 12 #[.slice A5 r2.length c5, .slice a0 la.length cap0] X fun e w' => e = .returned (.bool false) ∧ Below x3.heap.size x3 w' := fun hne hl X hX =>
    (cuneiformref01_Same.calls (r2.length + 1) A5 c5 r2 a0 cap0 la false X (Kd.C_below C5 hX) hc5 (Kd.C_below C0 hX) hca (by rw [same_f _ _ (by omega) _ (by omega), decide_eq_false hne])).mono fun e w' h => ⟨h.1, hX.trans (h.2.below.mono hX.size)⟩
  have hret : ∀ (a3 : Act) (X : World), (results Try.f4 a3.tmps).run Try.prog X = .ok (.bool true) X → a3.defers = [] → Below x3.heap.size x3 X → bodyPost Try.prog Try.f4 (fun e w' => e = .returned (.bool true) ∧ Below w.heap.size w w') .ret a3 X := fun a3 X h1 h2 h3 => bodyPost_ret h1 h2 ⟨rfl, bw3.trans (h3.mono bw3.size)⟩
  have HRET := Lib.hid hret
  have HK8 := Lib.hid hc4
  have hcase := hC.out
  clear hret S5 C5 B5 b35 bx2 bw3 C1 C0 hr3 hr4 hf2 hkk hc4
  obtain ⟨h1, h2, -, h4⟩ := hcase
  rcases h1 with ⟨rfl, rfl⟩ | ⟨rfl, n1, n2⟩
  · clear K12a
    rcases h2 with ⟨rfl, rfl⟩ | ⟨rfl, m1, m2, m3⟩
    · clear K12b
      by_cases h0 : a1 = 0
      · subst h0
        clear h4
        go_wp2_with (fail)
        refine (K8 _ hbK).mono ?_
        rintro e wK ⟨rfl, hbK⟩
        go_wp2_with (fail)
        exact HRET.out _ _ (by simp [results, Try.results4, go_sem]) rfl hbK
      · have h5 : (a1 != 0) = true := by simpa using h0
        have h6 : (a1 = 0) = False := eq_false h0
        clear h0 h4
        go_wp2_with (fail)
        refine (K8 _ hbK).mono ?_
        rintro e wK ⟨rfl, hbK⟩
        go_wp2_with (fail)
        exact HRET.out _ _ (by simp [results, Try.results4, go_sem]) rfl hbK
    · have h5 : (a1 != 0) = true := by simpa using m3
      have h6 : (a1 = 0) = False := eq_false m3
      have K := K12b m1 m2
      clear K12b m1 m2 m3 h4
      go_wp2_with (fail)
      refine (K8 _ hbK).mono ?_
      rintro e wK ⟨rfl, hbK⟩
      go_wp2_with (fail)
      refine (K _ hbK).mono ?_
      rintro e wK ⟨rfl, hbK⟩
      go_wp2_with (fail)
      exact HRET.out _ _ (by simp [results, Try.results4, go_sem]) rfl hbK
  · have KA := K12a n1 n2
    clear K12a n1 n2
    rcases h2 with ⟨rfl, rfl⟩ | ⟨rfl, m1, m2, m3⟩
    · clear K12b
      by_cases h0 : a1 = 0
      · subst h0
        clear h4
        go_wp2_with (fail)
        refine (K8 _ hbK).mono ?_
        rintro e wK ⟨rfl, hbK⟩
        go_wp2_with (fail)
        refine (KA _ hbK).mono ?_
        rintro e wK ⟨rfl, hbK⟩
        go_wp2_with (fail)
        exact HRET.out _ _ (by simp [results, Try.results4, go_sem]) rfl hbK
      · have h5 : (a1 != 0) = true := by simpa using h0
        have h6 : (a1 = 0) = False := eq_false h0
        clear h0 h4
        go_wp2_with (fail)
        refine (K8 _ hbK).mono ?_
        rintro e wK ⟨rfl, hbK⟩
        go_wp2_with (fail)
        refine (KA _ hbK).mono ?_
        rintro e wK ⟨rfl, hbK⟩
        go_wp2_with (fail)
        exact HRET.out _ _ (by simp [results, Try.results4, go_sem]) rfl hbK
    · have h5 : (a1 != 0) = true := by simpa using m3
      have h6 : (a1 = 0) = False := eq_false m3
      have K := K12b m1 m2
      clear K12b m1 m2 m3 h4
      go_wp2_with (fail)
      refine (K8 _ hbK).mono ?_
      rintro e wK ⟨rfl, hbK⟩
      go_wp2_with (fail)
      refine (KA _ hbK).mono ?_
      rintro e wK ⟨rfl, hbK⟩
      go_wp2_with (fail)
      refine (K _ hbK).mono ?_
      rintro e wK ⟨rfl, hbK⟩
      go_wp2_with (fail)
      exact HRET.out _ _ (by simp [results, Try.results4, go_sem]) rfl hbK
end Go.Proofs.Ytmpampbpkcfdoaa.P
