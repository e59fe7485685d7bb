/- What any bytes are decoded to: CobsDecodes answers true for all inputs. -/
import Derived.Test.YtmpampbpkcfdoaaRef
set_option linter.unusedVariables false
set_option linter.unusedSimpArgs false
namespace Go.Proofs.Ytmpampbpkcfdoaa.P
open Go.RowKit Go.Proofs.YtmpampbpkcfdoaaW.PrintWords Go.Proofs.YtmpampbpkcfdoaaW.PrintMore Go.Proofs.Ytmpampbpkcfdoaa.Ext Go.Proofs.Ytmpampbpkcfdoaa
attribute [local go_sem] max2_int min2_int max_two min_two max_three min_three max_four min_four
attribute [local go_sem] Oper.semAt_some

set_option maxRecDepth 100000 in
set_option maxHeartbeats 4000000 in
theorem cuneiformlaw05_CobsDecodes.walk (a0 : Option Addr) (len0 cap0 : Nat) (z0 : List Int) (w : World) (w0 : (a0 = none ∧ len0 = 0 ∧ cap0 = 0 ∧ z0 = []) ∨ ∃ x, a0 = some x ∧ len0 ≤ cap0 ∧ cap0 ≤ maxLen ∧ z0.length = cap0 ∧ (∀ i, i < z0.length → w.cell? (x.add i) = some (.int .u8 (z0.getD i 0))) ∧ ∀ n ∈ z0, (Lit.int .u8 n).wf = true) (y0 : len0 * 1 ≤ 140737488351232) :
    Calls Try.prog 5 #[.slice a0 len0 cap0] w fun e w' => e = .returned (.bool true) ∧ Below w.heap.size w w' := by
  obtain ⟨l0, rfl, hr0, hm0, hw0, hc0⟩ := ReadsInt.ofRowC w0
  have C0 : (Kd.int .u8).C w a0 l0.length l0 := Kd.C_of_reads (d := (0 : Int)) (h1 := fun _ => rfl) hr0
  have e0 : (if (1000 : Int) < (l0.length : Int) then (1000 : Int) else (l0.length : Int)).toNat = (l0.take 1000).length := by rw [List.length_take]; split <;> omega
  have D0 : (Kd.int .u8).C w a0 (l0.take 1000).length (l0.take 1000) := by
    rcases Nat.le_total l0.length 1000 with h | h
    · rw [List.take_of_length_le h]; exact C0
    · have := C_take (m := 1000) (C0) h; rwa [List.length_take, Nat.min_eq_left h]
  have hm : (if (1000 : Int) < (l0.length : Int) then (1000 : Int) else (l0.length : Int)) = ((l0.take 1000).length : Int) := by rw [List.length_take]; split <;> omega
  have hla : (l0.take 1000).length ≤ 1000 := by simp; omega
  have hca : (l0.take 1000).length ≤ cap0 := by simp; omega
  have hcl : ((l0.take 1000).length ≤ l0.length) = True := eq_true (by simp; omega)
  have hcc : ((l0.take 1000).length ≤ cap0) = True := eq_true hca
  have hin : inByte (l0.take 1000) = true := by
    rw [inByte_iff]
    intro x hx
    exact wf_byte (hw0 x (List.mem_of_mem_take hx))
  generalize l0.take 1000 = la at *
  clear w0 hr0 hw0 hm0 e0 C0
  obtain ⟨r1, q1, hd1⟩ : ∃ r q, decoded la = (r, q) := ⟨_, _, rfl⟩
  have hf1 : cobs_Decode.f la = some (r1, q1) := by rw [dec_f la (by omega) hin, hd1]
  have hf2 : cuneiformref05_Decode.f 8000 la = some (r1, q1) := by rw [rdec_f la hla hin 8000 (Nat.le_refl _), hd1]
  have hf3 : cobs_Stuffed.f la = some (q1 == 0) := by unfold cobs_Stuffed.f; rw [hf1]; rfl
  have hc1 : (r1 = [] ∧ q1 = 12) ∨ (q1 = 0 ∧ enc (blks r1) = la ∧ r1.length ≤ 1000) := by
    rcases decoded_ok la hin with ⟨e, _⟩ | ⟨b, e, hb⟩
    · rw [hd1] at e; exact .inl ⟨congrArg (·.1) e, congrArg (·.2) e⟩
    · rw [hd1] at e
      obtain rfl : r1 = b := congrArg (·.1) e
      refine .inr ⟨congrArg (·.2) e, hb, ?_⟩
      have := szs_ge r1; have := congrArg List.length hb; rw [enc_len] at this; omega
  clear hd1 hin
  go_enter Try.func5, Try.ntmps5
  go_wp2_with (fail)
  refine (cobs_Decode.calls a0 cap0 la r1 q1 w D0 hca hf1).mono ?_
  rintro e x1 ⟨v1, rfl, S1, B1⟩
  obtain ⟨Ar, cr, rfl, hcr, Cr⟩ := Kd.R_reads S1
  have HC1 := Lib.hid Cr
  have D1 := Kd.C_below D0 B1
  have HB1 := Lib.hid B1
  clear S1 Cr B1 hm hcl hcc
  go_wp2_with (fail)
  refine (cuneiformref05_Decode.calls 8000 a0 cap0 la r1 q1 x1 D1 hca hf2).mono ?_
  rintro e x2 ⟨v2, rfl, S2, B2⟩
  obtain ⟨Aw, cw, rfl, hcw, Cw⟩ := Kd.R_reads S2
  have C1 : (Kd.int .u8).C x2 Ar r1.length r1 := Kd.C_below HC1.out B2
  have C0 : (Kd.int .u8).C x2 a0 la.length la := Kd.C_below D1 B2
  have bw2 : Below w.heap.size w x2 := HB1.out.trans (B2.mono HB1.out.size)
  have hbK : Below x2.heap.size x2 x2 := Below.refl _ _
  obtain ⟨kk, hkk⟩ := known_true
  have K8 : ∀ X, Below x2.heap.size x2 X → Calls Try.prog 8 #[] X fun e w' => e = .returned (.bool true) ∧ Below x2.heap.size x2 w' := fun X hX => (cuneiformlaw05_known.calls kk true X hkk).mono fun e w' h => ⟨h.1, hX.trans (h.2.mono hX.size)⟩
  have K12 : r1.length ≤ 1000 → ∀ X, Below x2.heap.size x2 X → Calls Try.prog 12 #[.slice Ar r1.length cr, .slice Aw r1.length cw] X fun e w' => e = .returned (.bool true) ∧ Below x2.heap.size x2 w' := fun hl X hX =>
    (cuneiformref01_Same.calls (r1.length + 1) Ar cr r1 Aw cw r1 true X (Kd.C_below C1 hX) hcr (Kd.C_below Cw hX) hcw (by rw [same_f _ _ (by omega) _ (by omega), decide_eq_true rfl])).mono fun e w' h => ⟨h.1, hX.trans (h.2.below.mono hX.size)⟩
  have K14 : ∀ X, Below x2.heap.size x2 X → Calls Try.prog 14 #[.slice a0 la.length cap0] X fun e w' => e = .returned (.bool (q1 == 0)) ∧ Below x2.heap.size x2 w' := fun X hX =>
    (cobs_Stuffed.calls a0 cap0 la (q1 == 0) X (Kd.C_below C0 hX) hca hf3).mono fun e w' h => ⟨h.1, hX.trans (h.2.mono hX.size)⟩
  have K10 : r1.length ≤ 1000 → enc (blks r1) = la → ∀ X, Below x2.heap.size x2 X → Calls Try.prog 10 #[.slice Ar r1.length cr] X fun e w' => ∃ A c, e = .returned (.slice A la.length c) ∧ la.length ≤ c ∧ (Kd.int .u8).C w' A la.length la ∧ Below x2.heap.size x2 w' := fun hl he X hX =>
    (cobs_Encode.calls Ar cr r1 la X (Kd.C_below C1 hX) hcr (by rw [enc_f _ (by omega), he])).mono fun e w' h => by
      obtain ⟨v, rfl, S, B⟩ := h
      obtain ⟨A, c, rfl, hc, C⟩ := Kd.R_reads S
      exact ⟨A, c, rfl, hc, C, hX.trans (B.mono hX.size)⟩
  have K12b : ∀ (Y : World) (A : Option Addr) (c : Nat), la.length ≤ c → (Kd.int .u8).C Y A la.length la → Below x2.heap.size x2 Y → Calls Try.prog 12 #[.slice A la.length c, .slice a0 la.length cap0] Y fun e w' => e = .returned (.bool true) ∧ Below x2.heap.size x2 w' := fun X A c hc hC hX =>
    (cuneiformref01_Same.calls (la.length + 1) A c la a0 cap0 la true X hC hc (Kd.C_below C0 hX) hca (by rw [same_f _ _ (by omega) _ (by omega), decide_eq_true rfl])).mono fun e w' h => ⟨h.1, hX.trans (h.2.below.mono hX.size)⟩
  have hret : ∀ (a3 : Act) (X : World), (results Try.f5 a3.tmps).run Try.prog X = .ok (.bool true) X → a3.defers = [] → Below x2.heap.size x2 X → bodyPost Try.prog Try.f5 (fun e w' => e = .returned (.bool true) ∧ Below w.heap.size w w') .ret a3 X := fun a3 X h1 h2 h3 => bodyPost_ret h1 h2 ⟨rfl, bw2.trans (h3.mono bw2.size)⟩
  have HRET := Lib.hid hret
  clear hret S2 B2 bw2 C1 C0 Cw D1 hf1 hf2 hf3 hkk
  rcases hc1 with ⟨rfl, rfl⟩ | ⟨rfl, h1, h2⟩
  · have K := K12 (by simp)
    clear K12 K10 K12b
    go_wp2_with (fail)
    refine (K8 _ hbK).mono ?_
    rintro e wK ⟨rfl, hbK⟩
    go_wp2_with (fail)
    refine (K _ hbK).mono ?_
    rintro e wK ⟨rfl, hbK⟩
    go_wp2_with (fail)
    refine (K14 _ hbK).mono ?_
    rintro e wK ⟨rfl, hbK⟩
    go_wp2_with (fail)
    all_goals exact HRET.out _ _ (by simp [results, Try.results5, go_sem]) rfl hbK
  · have K := K12 h2
    have KE := K10 h2 h1
    clear K12 K10 h1
    go_wp2_with (fail)
    refine (K8 _ hbK).mono ?_
    rintro e wK ⟨rfl, hbK⟩
    go_wp2_with (fail)
    refine (K _ hbK).mono ?_
    rintro e wK ⟨rfl, hbK⟩
    go_wp2_with (fail)
    refine (K14 _ hbK).mono ?_
    rintro e wK ⟨rfl, hbK⟩
    go_wp2_with (fail)
    refine (KE _ hbK).mono ?_
    rintro e wK ⟨A, c, rfl, hc, hC, hbK⟩
    go_wp2_with (fail)
    refine (K12b _ A c hc hC hbK).mono ?_
    rintro e wK ⟨rfl, hbK⟩
    go_wp2_with (fail)
    all_goals exact HRET.out _ _ (by simp [results, Try.results5, go_sem]) rfl hbK
end Go.Proofs.Ytmpampbpkcfdoaa.P
