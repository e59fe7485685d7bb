/- What is open is forgotten by a reset: ScanResets answers true for all inputs. -/
import Derived.Test.YtmkhhnhoodneeaaYrw
set_option linter.unusedVariables false
set_option linter.unusedSimpArgs false
namespace Go.Proofs.Ytmkhhnhoodneeaa.P
open Go.RowKit Go.Proofs.YtmkhhnhoodneeaaW.PrintWords Go.Proofs.YtmkhhnhoodneeaaW.PrintMore Go.Proofs.Ytmkhhnhoodneeaa
attribute [local go_sem] max2_int min2_int max_two min_two max_three min_three max_four min_four
attribute [local go_sem] Oper.semAt_some

set_option maxRecDepth 100000 in
set_option maxHeartbeats 4000000 in
theorem cuneiformlaw09_ScanResets.walk (a0 : Option Addr) (len0 cap0 : Nat) (z0 : List Int) (a1 : Option Addr) (len1 cap1 : Nat) (z1 : List Int) (w : World) (w0 : (a0 = none ∧ len0 = 0 ∧ cap0 = 0 ∧ z0 = []) ∨ ∃ x, a0 = some x ∧ len0 ≤ cap0 ∧ cap0 ≤ maxLen ∧ z0.length = cap0 ∧ (∀ i, i < z0.length → w.cell? (x.add i) = some (.int .u8 (z0.getD i 0))) ∧ ∀ n ∈ z0, (Lit.int .u8 n).wf = true) (y0 : len0 * 1 ≤ 140737488351232)
    (w1 : (a1 = none ∧ len1 = 0 ∧ cap1 = 0 ∧ z1 = []) ∨ ∃ x, a1 = some x ∧ len1 ≤ cap1 ∧ cap1 ≤ maxLen ∧ z1.length = cap1 ∧ (∀ i, i < z1.length → w.cell? (x.add i) = some (.int .u8 (z1.getD i 0))) ∧ ∀ n ∈ z1, (Lit.int .u8 n).wf = true) (y1 : len1 * 1 ≤ 140737488351232) :
    Calls Try.prog 6 #[.slice a0 len0 cap0, .slice a1 len1 cap1] w fun e w' => e = .returned (.bool true) ∧ Below w.heap.size w w' := by
  obtain ⟨l0, rfl, hr0, hm0, hw0, hc0⟩ := ReadsInt.ofRowC w0
  obtain ⟨l1, rfl, hr1, hm1, hw1, hc1⟩ := ReadsInt.ofRowC w1
  have C0 : (Kd.int .u8).C w a0 l0.length l0 := Kd.C_of_reads (d := (0 : Int)) (h1 := fun _ => rfl) hr0
  have C1 : (Kd.int .u8).C w a1 l1.length l1 := Kd.C_of_reads (d := (0 : Int)) (h1 := fun _ => rfl) hr1
  have cut : ∀ (A : Option Addr) (l : List Int), (Kd.int .u8).C w A l.length l → (Kd.int .u8).C w A (l.take 300).length (l.take 300) := fun A l h => by
    rcases Nat.le_total l.length 300 with q | q
    · rw [List.take_of_length_le q]; exact h
    · have := C_take (m := 300) h q; rwa [List.length_take, Nat.min_eq_left q]
  have D0 := cut _ _ C0
  have D1 := cut _ _ C1
  have hm0' : (if (300 : Int) < (l0.length : Int) then (300 : Int) else (l0.length : Int)) = ((l0.take 300).length : Int) := by rw [List.length_take]; split <;> omega
  have hm1' : (if (300 : Int) < (l1.length : Int) then (300 : Int) else (l1.length : Int)) = ((l1.take 300).length : Int) := by rw [List.length_take]; split <;> omega
  have hla : (l0.take 300).length ≤ 300 := by simp; omega
  have hlb : (l1.take 300).length ≤ 300 := by simp; omega
  have hca : (l0.take 300).length ≤ cap0 := by simp; omega
  have hcb : (l1.take 300).length ≤ cap1 := by simp; omega
  have hcl : ((l0.take 300).length ≤ l0.length) = True := eq_true (by simp; omega)
  have hcc : ((l0.take 300).length ≤ cap0) = True := eq_true hca
  have hdl : ((l1.take 300).length ≤ l1.length) = True := eq_true (by simp; omega)
  have hdc : ((l1.take 300).length ≤ cap1) = True := eq_true hcb
  generalize l0.take 300 = la at *
  generalize l1.take 300 = lb at *
  have HD := Lib.hid (And.intro D0 D1)
  clear w0 w1 hr0 hr1 hw0 hw1 hm0 hm1 C0 C1 D0 D1 cut
  go_enter Try.func6, Try.ntmps6
  go_wp2_with (fail)
  refine wp_region_noPanic ?_
  go_region_law (fail)
  all_goals (
    refine NoPanic.normal ?_
    go_wp2_with (fail)
    refine (newL w.heap.size w.drew (Nat.le_refl _)).mono ?_
    rintro e X1 ⟨rfl, L1, b1, hs1⟩
    have b1 : Below w.heap.size w X1 := (Below.refl _ w).drew.trans b1
    have L1 : Live w.heap.size X1 w.heap.size (.slice none 0 0) [] 0 0 := L1
    have hs1 : X1.heap.size = w.heap.size + 1 := hs1
    have HS1 := Lib.hid (And.intro L1 (And.intro b1 hs1))
    clear L1 b1 hs1
    go_wp2_with (fail)
    refine (newL w.heap.size X1 HS1.out.2.1.size).mono ?_
    rintro e X2 ⟨rfl, L2, bb2, hs2⟩
    obtain ⟨L1, b1, hs1⟩ := HS1.out
    have L1 := L1.below bb2
    have b2 : Below w.heap.size w X2 := b1.trans (bb2.mono b1.size)
    rw [hs1] at L2 ⊢
    clear HS1 bb2 b1 hs1 hs2
    have hng : ∀ b, Own (w.heap.size + 1) (.slice none 0 0) b → ¬ Own w.heap.size (.slice none 0 0) b := fun b h1 h2 => by
      have := own_new h1; have := own_new h2; omega
    have L1h := Lib.hid (And.intro L1 (And.intro L2 (And.intro b2 hng)))
    clear L1 L2 b2 hng
    go_wp2_with (fail)
    refine (feedL w X2 w.heap.size a0 cap0 la _ [] 0 0 L1h.out.1 L1h.out.2.2.1 (by omega) hca HD.out.1).mono ?_
    rintro e X3 ⟨v3, vh3, rfl, L3, -, b3, s3, o3⟩
    have hn3 : ∀ b, Own (w.heap.size + 1) (.slice none 0 0) b → ¬ Own w.heap.size vh3 b := fun b h1 h2 => by
      rcases o3 b h2 with h | h
      · exact L1h.out.2.2.2 b h1 h
      · have := L1h.out.2.1.own_lt h1; omega
    have M3 := L1h.out.2.1.step s3 L1h.out.2.2.2
    have H3 := Lib.hid (And.intro L3 (And.intro M3 (And.intro b3 hn3)))
    clear L3 M3 b3 s3 o3 hn3
    go_wp2_with (fail)
    refine (resetL w X3 w.heap.size _ _ _ _ H3.out.1 H3.out.2.2.1).mono ?_
    rintro e X4 ⟨⟨v, rfl⟩, L4, b4, s4⟩
    have M4 := H3.out.2.1.step s4 (fun b h1 h2 => by have := own_new h1; omega)
    rw [Nat.zero_add] at L4
    have hu : IntKind.u64.wrap (la.length : Int) = (la.length : Int) := u64_id (by omega) (by omega)
    have H4 := Lib.hid (And.intro L4 (And.intro M4 b4))
    clear L4 M4 b4 s4 H3
    go_wp2_with (fail)
    refine (heldL H4.out.1).mono ?_
    rintro e W1 ⟨rfl, rfl⟩
    go_wp2_with (fail)
    refine (openL H4.out.1).mono ?_
    rintro e W1 ⟨rfl, rfl⟩
    go_wp2_with (fail)
    refine (fedL H4.out.1).mono ?_
    rintro e W1 ⟨rfl, rfl⟩
    go_wp2_with (fail)
    refine (feedL w _ w.heap.size a1 cap1 lb _ [] 0 la.length H4.out.1 H4.out.2.2 (by omega) hcb HD.out.2).mono ?_
    rintro e X5 ⟨v5, vh5, rfl, L5, S5, b5, s5, o5⟩
    have M5 := H4.out.2.1.step s5 (fun b h1 h2 => by have := own_new h1; have := own_new h2; omega)
    have hn5 : ∀ b, Own (w.heap.size + 1) (.slice none 0 0) b → ¬ Own w.heap.size vh5 b := fun b h1 h2 => by
      rcases o5 b h2 with h | h
      · have := own_new h1; have := own_new h; omega
      · have := H4.out.2.1.own_lt h1; omega
    have S5 := S5.other (T' := Own (w.heap.size + 1) (.slice none 0 0)) (fun b h => M5.own_ty h) (fun b h q => by
      have := own_new h; subst this
      obtain ⟨cs, hcs⟩ := q
      have h1 : X5.heap[w.heap.size + 1]? = _ := M5.1
      rw [hcs] at h1; cases h1)
    have hl5 := S5.slice
    obtain ⟨A5, c5, rfl⟩ := hl5
    have H5 := Lib.hid (And.intro S5 (And.intro M5 b5))
    clear L5 M5 S5 b5 s5 o5 hn5
    go_wp2_with (fail)
    refine (feedL w X5 (w.heap.size + 1) a1 cap1 lb _ [] 0 0 H5.out.2.1 H5.out.2.2 (by omega) hcb HD.out.2).mono ?_
    rintro e X6 ⟨v6, vh6, rfl, L6, S6, b6, s6, o6⟩
    have S5 := H5.out.1.step (T' := Own (w.heap.size + 1) (.slice none 0 0)) s6 (fun b hb => .inl hb)
    obtain ⟨A6, c6, rfl⟩ := S6.slice
    have hll : (sgs [] 0 la.length lb).length = (sgs [] 0 0 lb).length := by rw [← Nat.zero_add la.length, sgs_lat lb [] 0 0 la.length (Nat.le_refl _), List.length_map]
    have hcs5 : ∀ k, (Value.slice A5 (sgs [] 0 la.length lb).length c5).ownBlock = some k → k < X5.heap.size := fun k hk => by
      have h := H5.out.1
      obtain ⟨h0, rows, hl, hR, hf⟩ := h
      exact Kd.R_lt hR k hk
    have hlb5 : (sgs [] 0 la.length lb).length ≤ 1000000 := by have := sgs_len lb [] 0 la.length; omega
    have hlb6 : (sgs [] 0 0 lb).length ≤ 1000000 := by have := sgs_len lb [] 0 0; omega
    have hI : RstI w _ A5 c5 (sgs [] 0 la.length lb) A6 (sgs [] 0 0 lb) la.length 0 X6 := RstI.start (m := 0) b6 S5 S6 hlb5 hlb6 H5.out.2.2.size hcs5
    have H6 := Lib.hid hI
    have heq : (sgs [] 0 0 lb).map (lat la.length) = sgs [] 0 la.length lb := by rw [← Nat.zero_add la.length, sgs_lat lb [] 0 0 la.length (Nat.le_refl _), Nat.zero_add]
    have hsin : ∀ (i : Nat) (s : P.S39), (sgs [] 0 0 lb)[i]? = some s → IntKind.u64.wrap (s.f3 + (la.length : Int)) = s.f3 + (la.length : Int) := fun i s hs => by
      have := sgs_in lb [] 0 0 s (List.mem_of_getElem? hs) (Nat.le_refl _)
      exact u64_id (by omega) (by omega)
    generalize sgs [] 0 la.length lb = K5 at *
    generalize sgs [] 0 0 lb = K6 at *
    have HQ := Lib.hid (And.intro heq hsin)
    clear hI S5 S6 L6 b6 s6 o6 hcs5 heq hsin H5 H4 L1h HD hm0' hm1' hcl hcc hdl hdc
    go_wp2_with (fail)
    go_loopw [9] (fun t X => ∃ i : Nat, t = .int .i64 (i : Int) ∧ RstI w W1.heap.size A5 c5 K5 A6 K6 la.length i X) (fun t _ => K6.length - (intV t).toNat)
    case atStart => exact ⟨0, rfl, H6.out⟩
    case round =>
      obtain ⟨i, rfl, hr⟩ := hrel
      have hi := hr.1
      by_cases hlt : i < K6.length
      · obtain ⟨g, s, rfl, hs, hcell, hfz, hn⟩ := hr.next hlb5 hlb6 hlt
        have hws := HQ.out.2 i s hs
        have hlt2 : ((i : Int) < (K6.length : Int)) = True := eq_true (by omega)
        have e1 : wrap64 ((i : Int) + 1) = ((i + 1 : Nat) : Int) := by unfold wrap64; omega
        have HN := Lib.hid (And.intro hn e1)
        clear hr hn e1 hs
        go_wp2_with (fail)
        exact ⟨⟨i + 1, by simp, HN.out.1⟩, by simp [intV]; omega⟩
      · have hie : i = K6.length := by omega
        subst hie
        have hlt2 : ((K6.length : Int) < (K6.length : Int)) = False := eq_false (by omega)
        have C6 := hr.2.2.2.1 rfl
        rw [HQ.out.1] at C6
        have HR := Lib.hid (And.intro hr.2.1 (And.intro hr.2.2.1 C6))
        clear hr C6 hlt
        rw [← hll] at *
        go_wp2_with (fail)
        refine (known_call wr).mono ?_
        rintro e W1 ⟨rfl, b1⟩
        go_wp2_with (fail)
        refine (same_call W1 A5 A6 c5 c6 K5 (Kd.C_below HR.out.2.1 b1) (Kd.C_below HR.out.2.2 b1) hlb5).mono ?_
        rintro e W2 ⟨rfl, b2⟩
        go_wp2_with (fail)
        refine bodyPost_ret (v := .bool true) (by simp [results, Try.results6, go_sem]) rfl ⟨rfl, ?_⟩
        have b12 := b1.trans (b2.mono b1.size)
        exact HR.out.1.trans (b12.mono HR.out.1.size))
end Go.Proofs.Ytmkhhnhoodneeaa.P
