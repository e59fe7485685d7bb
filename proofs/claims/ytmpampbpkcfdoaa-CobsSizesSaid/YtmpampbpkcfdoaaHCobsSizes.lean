/- How many bytes there are, stuffed: CobsSizes answers true for all inputs. -/
import Derived.Test.YtmpampbpkcfdoaaPx1
import Derived.Test.YtmpampbpkcfdoaaCob
set_option linter.unusedVariables false
set_option linter.unusedSimpArgs false
namespace Go.Proofs.Ytmpampbpkcfdoaa.P
open Go.RowKit Go.Proofs.YtmpampbpkcfdoaaW.PrintWords Go.Proofs.YtmpampbpkcfdoaaW.PrintMore Go.Proofs.Ytmpampbpkcfdoaa.Ext Go.Proofs.Ytmpampbpkcfdoaa
attribute [local go_sem] max2_int min2_int max_two min_two max_three min_three max_four min_four
attribute [local go_sem] Oper.semAt_some

theorem known_true : ∃ k, cuneiformlaw05_known.f k = some true := ⟨10, by decide +kernel⟩
theorem w64 {x : Int} (h : -9000000000000000000 ≤ x ∧ x ≤ 9000000000000000000) : wrap64 x = x := by unfold wrap64; omega
theorem most_f (n : Nat) (h : n ≤ 1000000000) : cobs_Most.f (n : Int) = some ((n + max 1 ((n + 253) / 254) : Nat) : Int) := by
  unfold cobs_Most.f mx
  rw [if_neg (by omega), Int.tmod_eq_emod_of_nonneg (by omega), Int.tdiv_eq_ediv_of_nonneg (by omega)]
  have e1 : wrap64 ((n : Int) / 254) = (n : Int) / 254 := w64 (by omega)
  have e2 : wrap64 ((n : Int) / 254 + 1) = (n : Int) / 254 + 1 := w64 (by omega)
  rw [e1, e2]
  by_cases h1 : (n : Int) % 254 = 0
  · rw [if_pos h1, w64 (by split <;> omega)]; refine congrArg some ?_; split <;> omega
  · rw [if_neg h1, w64 (by split <;> omega)]; refine congrArg some ?_; split <;> omega
theorem most_neg (n : Int) (h : n < 0) : cobs_Most.f n = some 0 := if_pos h

set_option maxRecDepth 100000 in
set_option maxHeartbeats 4000000 in
theorem cuneiformlaw05_CobsSizes.walk (a0 : Option Addr) (len0 cap0 : Nat) (z0 : List Int) (a1 : Int) (w : World) (w0 : (a0 = none ∧ len0 = 0 ∧ cap0 = 0 ∧ z0 = []) ∨ ∃ x, a0 = some x ∧ len0 ≤ cap0 ∧ cap0 ≤ maxLen ∧ z0.length = cap0 ∧ (∀ i, i < z0.length → w.cell? (x.add i) = some (.int .u8 (z0.getD i 0))) ∧ ∀ n ∈ z0, (Lit.int .u8 n).wf = true) (y0 : len0 * 1 ≤ 140737488351232) (w1 : (Lit.int .i64 a1).wf = true) :
    Calls Try.prog 3 #[.slice a0 len0 cap0, .int .i64 a1] w fun e w' => e = .returned (.bool true) ∧ Below w.heap.size w w' := by
  obtain ⟨l0, rfl, hr0, hm0, hw0, hc0⟩ := ReadsInt.ofRowC w0
  have C0 : (Kd.int .u8).C w a0 l0.length l0 := Kd.C_of_reads (d := (0 : Int)) (h1 := fun _ => rfl) hr0
  have e0 : (if (1000 : Int) < (l0.length : Int) then (1000 : Int) else (l0.length : Int)).toNat = (l0.take 1000).length := by rw [List.length_take]; split <;> omega
  have D0 : (Kd.int .u8).C w a0 (l0.take 1000).length (l0.take 1000) := by
    rcases Nat.le_total l0.length 1000 with h | h
    · rw [List.take_of_length_le h]; exact C0
    · have := C_take (m := 1000) (C0) h; rwa [List.length_take, Nat.min_eq_left h]
  have hm : (if (1000 : Int) < (l0.length : Int) then (1000 : Int) else (l0.length : Int)) = ((l0.take 1000).length : Int) := by rw [List.length_take]; split <;> omega
  have hla : (l0.take 1000).length ≤ 1000 := by simp; omega
  have hca : (l0.take 1000).length ≤ cap0 := by simp; omega
  have hcl : ((l0.take 1000).length ≤ l0.length) = True := eq_true (by simp; omega)
  have hcc : ((l0.take 1000).length ≤ cap0) = True := eq_true hca
  generalize l0.take 1000 = la at *
  clear w0 hr0 hw0 hm0 e0 C0
  have hsz : cobs_Size.f la = some ((szs (blks la) : Nat) : Int) := if_pos (by omega)
  have g1 := szs_ge la
  have g2 := szs_most la
  have g3 := szs_whole la
  generalize szs (blks la) = sz at *
  have hmx : (if (1 : Int) < ((la.length : Int) + 253) / 254 then ((la.length : Int) + 253) / 254 else 1) = ((max 1 ((la.length + 253) / 254) : Nat) : Int) := by split <;> omega
  have hmo : max 1 ((la.length + 253) / 254) ≤ 5 := by omega
  have hm254 : ¬ la.length > 254 → max 1 ((la.length + 253) / 254) = 1 := by omega
  have hfm := most_f la.length (by omega)
  generalize max 1 ((la.length + 253) / 254) = mo at *
  have HG := Lib.hid (And.intro g1 (And.intro g2 (And.intro g3 hm254)))
  clear g1 g2 g3 hm254
  go_enter Try.func3, Try.ntmps3
  go_wp2_with (go_at_call 7; refine (cobs_Size.calls a0 cap0 la _ w D0 hca hsz).mono ?_; rintro e x1 ⟨rfl, hb1⟩)
  have HB1 := Lib.hid hb1
  have HFM := Lib.hid hfm
  have HMX := Lib.hid (And.intro hmx hmo)
  clear hb1 hfm hmx hmo hsz hm
  go_loop [8, 9] (fun b t => ∃ (bb : Bool) (i : Nat), b = .bool bb ∧ t = .int .i64 (i : Int) ∧ i ≤ la.length ∧ Hid (bb = decide (0 ∉ la.take i))) (fun _ t => la.length - (intOf t).toNat)
  case atStart => exact ⟨true, 0, rfl, rfl, Nat.zero_le _, Lib.hid (by simp)⟩
  case round =>
    obtain ⟨bb, i, rfl, rfl, hi, HBB⟩ := hrel
    by_cases hlt : i < la.length
    · obtain ⟨ad, rfl, hcell⟩ := Kd.at_int (Kd.C_below D0 HB1.out) (i : Int) (by omega) (by omega)
      have hlt2 : ((i : Int) < (la.length : Int)) = True := eq_true (by omega)
      rw [Int.toNat_natCast] at hcell
      have hbb : ((decide (0 ∉ la.take i)) && (rd la (i : Int) != 0)) = decide (0 ∉ la.take (i + 1)) := by
        rw [List.take_succ_eq_append_getElem hlt, rd_get hlt]
        by_cases q1 : 0 ∈ la.take i
        · have e1 : (0 : Int) ∈ la.take i ++ [la[i]] := List.mem_append.2 (.inl q1)
          rw [decide_eq_false (not_not_intro q1), decide_eq_false (not_not_intro e1), Bool.false_and]
        · by_cases q2 : la[i] = 0
          · have e1 : (0 : Int) ∈ la.take i ++ [la[i]] := List.mem_append.2 (.inr (by rw [q2]; exact List.mem_singleton.2 rfl))
            rw [decide_eq_false (not_not_intro e1), q2]; exact Bool.and_false _
          · have e1 : (0 : Int) ∉ la.take i ++ [la[i]] := by
              intro h; rcases List.mem_append.1 h with h | h
              · exact q1 h
              · exact q2 (by simpa [eq_comm] using h)
            rw [decide_eq_true q1, decide_eq_true e1, Bool.true_and]; simpa [bne] using q2
      rw [← HBB.out] at hbb
      have hi1 : wrap64 ((i : Int) + 1) = ((i + 1 : Nat) : Int) := w64 (by omega)
      have HBN := Lib.hid (And.intro hbb hi1)
      clear hbb hi1
      generalize rd la (i : Int) = x at *
      cases bb with
      | false =>
        go_wp2_with (fail)
        go_round
        case rel => exact ⟨false, i + 1, rfl, by simp, by omega, Lib.hid HBN.out.1⟩
        case measure => simp [intOf]; omega
      | true =>
        go_wp2_with (fail)
        go_round
        case rel => exact ⟨_, i + 1, rfl, by simp, by omega, Lib.hid (by rw [← HBN.out.1]; simp)⟩
        case measure => simp [intOf]; omega
    · have hi : i = la.length := by omega
      subst hi
      clear hlt
      have hbv : bb = true → 0 ∉ la := by
        have h := HBB.out
        rw [List.take_length] at h
        intro e; rw [e] at h; exact of_decide_eq_true h.symm
      obtain ⟨m, hmm, hmn⟩ : ∃ m : Nat, wrap64 ((IntKind.u64.wrap a1).tmod 1000000000) = (m : Int) ∧ m ≤ 1000000000 := by
        have h0 : 0 ≤ IntKind.u64.wrap a1 := by unfold IntKind.wrap; simp [IntKind.signed, IntKind.bits]; omega
        refine ⟨((IntKind.u64.wrap a1).tmod 1000000000).toNat, ?_, ?_⟩
        · rw [Int.tmod_eq_emod_of_nonneg h0, w64 (by omega)]; omega
        · rw [Int.tmod_eq_emod_of_nonneg h0]; omega
      have f1 := most_f m hmn
      have f2 := most_neg (-1 - (m : Int)) (by omega)
      have hmx2 : (if (1 : Int) < ((m : Int) + 253) / 254 then ((m : Int) + 253) / 254 else 1) = ((max 1 ((m + 253) / 254) : Nat) : Int) := by split <;> omega
      have hmo2 : max 1 ((m + 253) / 254) ≤ 4000000 := by omega
      generalize max 1 ((m + 253) / 254) = mo2 at *
      rw [show ((m + mo2 : Nat) : Int) = (m : Int) + (mo2 : Int) by omega] at f1
      have f0 := HFM.out
      rw [show ((la.length + mo : Nat) : Int) = (la.length : Int) + (mo : Int) by omega] at f0
      obtain ⟨kk, hkk⟩ := known_true
      have K8 : ∀ X, Below w.heap.size w X → Calls Try.prog 8 #[] X fun e w' => e = .returned (.bool true) ∧ Below w.heap.size w w' := fun X hX => (cuneiformlaw05_known.calls kk true X hkk).mono fun e w' h => ⟨h.1, hX.trans (h.2.mono hX.size)⟩
      obtain ⟨g1, g2, g3, g4⟩ := HG.out
      have t1 : ((la.length : Int) + 1 ≤ (sz : Int)) = True := eq_true (by omega)
      have t2 : ((sz : Int) ≤ (la.length : Int) + (mo : Int)) = True := eq_true (by omega)
      have K9a : ∀ X, Below w.heap.size w X → Calls Try.prog 9 #[.int .i64 (la.length : Int)] X fun e w' => e = .returned (.int .i64 ((la.length : Int) + (mo : Int))) ∧ Below w.heap.size w w' := fun X hX => (cobs_Most.calls _ _ X f0).mono fun e w' h => ⟨h.1, hX.trans (h.2.mono hX.size)⟩
      have K9b : ∀ X, Below w.heap.size w X → Calls Try.prog 9 #[.int .i64 (m : Int)] X fun e w' => e = .returned (.int .i64 ((m : Int) + (mo2 : Int))) ∧ Below w.heap.size w w' := fun X hX => (cobs_Most.calls _ _ X f1).mono fun e w' h => ⟨h.1, hX.trans (h.2.mono hX.size)⟩
      have K9c : ∀ X, Below w.heap.size w X → Calls Try.prog 9 #[.int .i64 (-1 - (m : Int))] X fun e w' => e = .returned (.int .i64 0) ∧ Below w.heap.size w w' := fun X hX => (cobs_Most.calls _ _ X f2).mono fun e w' h => ⟨h.1, hX.trans (h.2.mono hX.size)⟩
      have hw : bb = true → (sz : Int) = (la.length : Int) + (mo : Int) := fun e => by have := g3 (hbv e); omega
      have h4 : ¬ 254 < la.length → (sz : Int) = (la.length : Int) + 1 := fun e => by have := g4 e; omega
      have t3 : (1 ≤ mo) = True := eq_true (by omega)
      have t4 : ((1 : Int) ≤ (mo : Int)) = True := eq_true (by omega)
      clear f1 f2 f0 hkk g1 g2 g3 g4 hbv
      have hbK := HB1.out
      have hret : ∀ (a3 : Act) (X : World), (results Try.f3 a3.tmps).run Try.prog X = .ok (.bool true) X → a3.defers = [] → Below w.heap.size w X → bodyPost Try.prog Try.f3 (fun e w' => e = .returned (.bool true) ∧ Below w.heap.size w w') .ret a3 X := fun a3 X h1 h2 h3 => bodyPost_ret h1 h2 ⟨rfl, h3⟩
      have HRET := Lib.hid hret
      clear hret
      by_cases hk : 254 < la.length
      · have hk1 : (254 < (la.length : Int)) = True := eq_true (by omega)
        cases bb with
        | false =>
          clear hw h4
          go_wp2_with (fail)
          refine (K8 _ hbK).mono ?_
          rintro e wK ⟨rfl, hbK⟩
          go_wp2_with (fail)
          refine (K9a _ hbK).mono ?_
          rintro e wK ⟨rfl, hbK⟩
          go_wp2_with (fail)
          refine (K9b _ hbK).mono ?_
          rintro e wK ⟨rfl, hbK⟩
          go_wp2_with (fail)
          refine (K9c _ hbK).mono ?_
          rintro e wK ⟨rfl, hbK⟩
          go_wp2_with (fail)
          exact HRET.out _ _ (by simp [results, Try.results3, go_sem]) rfl hbK
        | true =>
          have e1 := hw rfl
          rw [e1] at *
          clear hw h4
          go_wp2_with (fail)
          refine (K8 _ hbK).mono ?_
          rintro e wK ⟨rfl, hbK⟩
          go_wp2_with (fail)
          refine (K9a _ hbK).mono ?_
          rintro e wK ⟨rfl, hbK⟩
          go_wp2_with (fail)
          refine (K9b _ hbK).mono ?_
          rintro e wK ⟨rfl, hbK⟩
          go_wp2_with (fail)
          refine (K9c _ hbK).mono ?_
          rintro e wK ⟨rfl, hbK⟩
          go_wp2_with (fail)
          exact HRET.out _ _ (by simp [results, Try.results3, go_sem]) rfl hbK
      · have hk1 : (254 < (la.length : Int)) = False := eq_false (by omega)
        have e1 := h4 hk
        cases bb with
        | false =>
          rw [e1] at *
          clear hw h4
          go_wp2_with (fail)
          refine (K8 _ hbK).mono ?_
          rintro e wK ⟨rfl, hbK⟩
          go_wp2_with (fail)
          refine (K9a _ hbK).mono ?_
          rintro e wK ⟨rfl, hbK⟩
          go_wp2_with (fail)
          refine (K9b _ hbK).mono ?_
          rintro e wK ⟨rfl, hbK⟩
          go_wp2_with (fail)
          refine (K9c _ hbK).mono ?_
          rintro e wK ⟨rfl, hbK⟩
          go_wp2_with (fail)
          exact HRET.out _ _ (by simp [results, Try.results3, go_sem]) rfl hbK
        | true =>
          have e2 : (mo : Int) = 1 := by have := hw rfl; omega
          obtain rfl : mo = 1 := by omega
          rw [e1] at *
          clear hw h4
          go_wp2_with (fail)
          refine (K8 _ hbK).mono ?_
          rintro e wK ⟨rfl, hbK⟩
          go_wp2_with (fail)
          refine (K9a _ hbK).mono ?_
          rintro e wK ⟨rfl, hbK⟩
          go_wp2_with (fail)
          refine (K9b _ hbK).mono ?_
          rintro e wK ⟨rfl, hbK⟩
          go_wp2_with (fail)
          refine (K9c _ hbK).mono ?_
          rintro e wK ⟨rfl, hbK⟩
          go_wp2_with (fail)
          exact HRET.out _ _ (by simp [results, Try.results3, go_sem]) rfl hbK
end Go.Proofs.Ytmpampbpkcfdoaa.P
