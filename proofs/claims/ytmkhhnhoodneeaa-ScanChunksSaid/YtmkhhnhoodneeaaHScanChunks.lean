/- In whatever parts bytes are fed, the segments are those of all at once: ScanChunks answers true for all inputs. -/
import Derived.Test.YtmkhhnhoodneeaaArw
set_option linter.unusedVariables false
set_option linter.unusedSimpArgs false
namespace Go.Proofs.Ytmkhhnhoodneeaa.P
open Go.RowKit Go.Proofs.YtmkhhnhoodneeaaW.PrintWords Go.Proofs.YtmkhhnhoodneeaaW.PrintMore Go.Proofs.Ytmkhhnhoodneeaa
attribute [local go_sem] max2_int min2_int max_two min_two max_three min_three max_four min_four
attribute [local go_sem] Oper.semAt_some

/-- Behind a bytes of la: g has been fed them, g1 nothing; v holds the segments. -/
def ChunkI (w : World) (la : List Int) (a : Nat) (v : Value) (X : World) : Prop :=
  ∃ vh, Live w.heap.size X w.heap.size vh (hld [] 0 (la.take a)).1 (hld [] 0 (la.take a)).2 a ∧ Live w.heap.size X (w.heap.size + 1) (.slice none 0 0) [] 0 0 ∧ SegRow w.heap.size X (Own w.heap.size vh) v (sgs [] 0 0 (la.take a)) ∧ Below w.heap.size w X ∧ (∀ b, Own (w.heap.size + 1) (.slice none 0 0) b → ¬ Own w.heap.size vh b)

theorem tmod20 (y : Int) : ∃ q : Nat, q < 20 ∧ (IntKind.u64.wrap y).tmod 20 = (q : Int) := by
  have h : 0 ≤ IntKind.u64.wrap y := by unfold IntKind.wrap; simp only []; exact Int.emod_nonneg _ (by decide)
  refine ⟨((IntKind.u64.wrap y).tmod 20).toNat, ?_, ?_⟩
  · have := Int.tmod_lt_of_pos (IntKind.u64.wrap y) (b := 20) (by decide); omega
  · have := Int.tmod_nonneg 20 h; omega
theorem w64n {n : Nat} (h : n < 1000000) : wrap64 (n : Int) = (n : Int) := by unfold wrap64; omega
theorem mn2 (q a L : Nat) (h : a ≤ L) : ∃ m : Nat, a + m ≤ L ∧ (if (q : Int) < (L : Int) - (a : Int) then (q : Int) else (L : Int) - (a : Int)) = (m : Int) := ⟨min q (L - a), by omega, by split <;> omega⟩
theorem ChunkI.below {w : World} {la : List Int} {a : Nat} {v : Value} {X : World} (h : ChunkI w la a v X) : Below w.heap.size w X := by
  obtain ⟨_, _, _, _, h, _⟩ := h; exact h
theorem ChunkI.step {w : World} {la : List Int} {a : Nat} {v : Value} {X Y : World} (h : ChunkI w la a v X) (hb : Below X.heap.size X Y) : ChunkI w la a v Y := by
  obtain ⟨vh, L1, L2, S, hb0, hn⟩ := h
  exact ⟨vh, L1.below hb, L2.below hb, S.step (Stab.of_below (T := Own w.heap.size vh) (n := 0) hb) (fun b hb' => .inl hb'), hb0.trans (hb.mono hb0.size), hn⟩
theorem ChunkI.slice {w : World} {la : List Int} {a : Nat} {v : Value} {X : World} (h : ChunkI w la a v X) : ∃ A c, v = .slice A (sgs [] 0 0 (la.take a)).length c := by
  obtain ⟨vh, L1, L2, S, hb, hn⟩ := h
  exact S.slice
theorem chunk_held {w : World} {la : List Int} {a : Nat} {v : Value} {X : World} (h : ChunkI w la a v X) : ∃ k : Nat, k ≤ 255 ∧ Calls Try.prog 12 #[.pointer (some ⟨w.heap.size, 0, none⟩)] X fun e W' => e = .returned (.int .i64 (k : Int)) ∧ W' = X := by
  obtain ⟨vh, L1, L2, S, hb, hn⟩ := h
  exact ⟨_, L1.2.2.1.1, heldL L1⟩
theorem chunk_step {w : World} {la : List Int} {a m cap0 : Nat} {v : Value} {X : World} {ad : Addr} (h : ChunkI w la a v X) (hC : (Kd.int .u8).C w (some ad) la.length la) (hm : a + m ≤ la.length) (hla : la.length ≤ 900) (hca : la.length ≤ cap0) :
    Calls Try.prog 11 #[.pointer (some ⟨w.heap.size, 0, none⟩), .slice (some (ad.add a)) m (cap0 - a)] X fun e X1 => ∃ A n c, e = .returned (.slice A n c) ∧ ∃ v2 X2, (Builtin.append_ #[28, 28] 28 #[v, .slice A n c]).run Try.prog X1 = .ok v2 X2 ∧ ChunkI w la (a + m) v2 X2 := by
  obtain ⟨vh, L1, L2, S, hb, hn⟩ := h
  have hl : ((la.drop a).take m).length = m := by simp; omega
  have hP : (Kd.int .u8).C w (some (ad.add a)) ((la.drop a).take m).length ((la.drop a).take m) := by rw [hl]; exact C_piece hC rfl a m hm
  have hF := feedL w X w.heap.size (some (ad.add a)) (cap0 - a) ((la.drop a).take m) vh _ _ a L1 hb (by rw [hl]; omega) (by rw [hl]; omega) hP
  rw [hl] at hF
  refine hF.mono ?_
  rintro e X1 ⟨v1, vh1, rfl, L3, S3, b3, s3, o3⟩
  have ht : la.take (a + m) = la.take a ++ (la.drop a).take m := by rw [List.take_add]
  have hsg : sgs [] 0 0 (la.take (a + m)) = sgs [] 0 0 (la.take a) ++ sgs (hld [] 0 (la.take a)).1 (hld [] 0 (la.take a)).2 a ((la.drop a).take m) := by
    rw [ht, sgs_app, Nat.zero_add, List.length_take, Nat.min_eq_left (by omega)]
  have hhl : hld [] 0 (la.take (a + m)) = hld (hld [] 0 (la.take a)).1 (hld [] 0 (la.take a)).2 ((la.drop a).take m) := by rw [ht, hld_app]
  have hlen : (sgs [] 0 0 (la.take (a + m))).length ≤ 900 := Nat.le_trans (sgs_len _ _ _ _) (by simp; omega)
  rw [hsg, List.length_append] at hlen
  obtain ⟨A3, c3, rfl⟩ := S3.slice
  have S1 := S.step (T' := Own w.heap.size vh1) s3 (fun b hb' => o3 b hb')
  have L2' := L2.step s3 (fun b h1 h2 => hn b h1 h2)
  have hn3 : ∀ b, Own (w.heap.size + 1) (.slice none 0 0) b → ¬ Own w.heap.size vh1 b := fun b h1 h2 => by
    rcases o3 b h2 with h | h
    · exact hn b h1 h
    · have := L2.own_lt h1; omega
  obtain ⟨v2, X2, hrun, S2, hg, hat⟩ := SegRow.appendRow S1 S3 L3.2.2.2.2.2 (by omega) (fun b hb' => L3.own_lt hb')
  have hty := S1.typed
  have sg : Stab (fun b => v.ownBlock = some b) X1.heap.size X1 X2 := Stab.grownT (T := fun b => v.ownBlock = some b) hg (fun k hk => hk)
  have hd : ∀ (g : Nat) (vh : Value) (xs : List Int) (n fed : Nat), Live w.heap.size X1 g vh xs n fed → ∀ b, Own g vh b → ¬ (v.ownBlock = some b) := fun g vh xs n fed hL b h1 h2 => by
    obtain ⟨cs, t, h3, h4⟩ := hL.own_ty h1
    obtain ⟨⟨cells, h5⟩, _⟩ := hty b h2
    rw [h3] at h5; cases h5; rcases h4 with h4 | h4 <;> cases h4
  refine ⟨A3, _, c3, rfl, v2, X2, hrun, vh1, ?_, L2'.step sg (hd _ _ _ _ _ L2'), ?_, ?_, hn3⟩
  · rw [hhl]
    have := L3.step sg (hd _ _ _ _ _ L3)
    exact this
  · rw [hsg]; exact S2
  · exact b3.grown hg b3.size (fun k hk => (hty k hk).2)
theorem chunk_one {w : World} {la : List Int} {cap0 : Nat} {v : Value} {X : World} {a0 : Option Addr} (h : ChunkI w la la.length v X) (hC : (Kd.int .u8).C w a0 la.length la) (hla : la.length ≤ 900) (hca : la.length ≤ cap0) :
    Calls Try.prog 11 #[.pointer (some ⟨w.heap.size + 1, 0, none⟩), .slice a0 la.length cap0] X fun e X1 => ∃ A B c d, v = .slice A (sgs [] 0 0 la).length c ∧ e = .returned (.slice B (sgs [] 0 0 la).length d) ∧ Kd.C P.k39 X1 A (sgs [] 0 0 la).length (sgs [] 0 0 la) ∧ Kd.C P.k39 X1 B (sgs [] 0 0 la).length (sgs [] 0 0 la) ∧ Below w.heap.size w X1 ∧
      ∃ vh vh', Live w.heap.size X1 w.heap.size vh (hld [] 0 la).1 (hld [] 0 la).2 la.length ∧ Live w.heap.size X1 (w.heap.size + 1) vh' (hld [] 0 la).1 (hld [] 0 la).2 la.length := by
  obtain ⟨vh, L1, L2, S, hb, hn⟩ := h
  rw [List.take_length] at L1 S
  have hlen : (sgs [] 0 0 la).length ≤ 1000000 := Nat.le_trans (sgs_len _ _ _ _) (by omega)
  refine (feedL w X (w.heap.size + 1) a0 cap0 la _ [] 0 0 L2 hb (by omega) hca hC).mono ?_
  rintro e X1 ⟨v1, vh1, rfl, L3, S3, b3, s3, o3⟩
  have S' := S.other (T' := Own (w.heap.size + 1) (.slice none 0 0)) (fun b h => L2.own_ty h) (fun b h q => by
      have := own_new h; subst this
      obtain ⟨cs, hcs⟩ := q
      have h1 : X.heap[w.heap.size + 1]? = _ := L2.1
      rw [hcs] at h1; cases h1)
  have S1 := S'.step (T' := Own (w.heap.size + 1) (.slice none 0 0)) s3 (fun b hb' => .inl hb')
  obtain ⟨A, c, rfl⟩ := S1.slice
  obtain ⟨B, d, rfl⟩ := S3.slice
  rw [Nat.zero_add] at L3
  exact ⟨A, B, c, d, rfl, rfl, S1.C hlen, S3.C hlen, b3, vh, vh1, L1.step s3 (fun b h1 h2 => hn b h2 h1), L3⟩
set_option maxRecDepth 100000 in
set_option maxHeartbeats 4000000 in
theorem cuneiformlaw09_ScanChunks.walk (a0 : Option Addr) (len0 cap0 : Nat) (z0 : List Int) (a1 : Option Addr) (len1 cap1 : Nat) (z1 : List Int) (w : World) (w0 : (a0 = none ∧ len0 = 0 ∧ cap0 = 0 ∧ z0 = []) ∨ ∃ x, a0 = some x ∧ len0 ≤ cap0 ∧ cap0 ≤ maxLen ∧ z0.length = cap0 ∧ (∀ i, i < z0.length → w.cell? (x.add i) = some (.int .u8 (z0.getD i 0))) ∧ ∀ n ∈ z0, (Lit.int .u8 n).wf = true) (y0 : len0 * 1 ≤ 140737488351232)
    (w1 : (a1 = none ∧ len1 = 0 ∧ cap1 = 0 ∧ z1 = []) ∨ ∃ x, a1 = some x ∧ len1 ≤ cap1 ∧ cap1 ≤ maxLen ∧ z1.length = cap1 ∧ (∀ i, i < z1.length → w.cell? (x.add i) = some (.int .i64 (z1.getD i 0))) ∧ ∀ n ∈ z1, (Lit.int .i64 n).wf = true) (y1 : len1 * 8 ≤ 140737488351232) :
    Calls Try.prog 4 #[.slice a0 len0 cap0, .slice a1 len1 cap1] w fun e w' => e = .returned (.bool true) ∧ Below w.heap.size w w' := by
  obtain ⟨l0, rfl, hr0, hm0, hw0, hc0⟩ := ReadsInt.ofRowC w0
  obtain ⟨l1, rfl, hr1, hm1, hw1, hc1⟩ := ReadsInt.ofRowC w1
  have C0 : (Kd.int .u8).C w a0 l0.length l0 := Kd.C_of_reads (d := (0 : Int)) (h1 := fun _ => rfl) hr0
  have C1 : (Kd.int .i64).C w a1 l1.length l1 := Kd.C_of_reads (d := (0 : Int)) (h1 := fun _ => rfl) hr1
  have cut : (Kd.int .u8).C w a0 (l0.take 900).length (l0.take 900) := by
    rcases Nat.le_total l0.length 900 with q | q
    · rw [List.take_of_length_le q]; exact C0
    · have := C_take (m := 900) C0 q; rwa [List.length_take, Nat.min_eq_left q]
  have hm0' : (if (900 : Int) < (l0.length : Int) then (900 : Int) else (l0.length : Int)) = ((l0.take 900).length : Int) := by rw [List.length_take]; split <;> omega
  have hla : (l0.take 900).length ≤ 900 := by simp; omega
  have hca : (l0.take 900).length ≤ cap0 := by simp; omega
  have hcl : ((l0.take 900).length ≤ l0.length) = True := eq_true (by simp; omega)
  have hcc : ((l0.take 900).length ≤ cap0) = True := eq_true hca
  generalize l0.take 900 = la at *
  have HD := Lib.hid (And.intro cut C1)
  have hl1 : l1.length ≤ 140737488351232 := by omega
  clear w0 w1 hr0 hr1 hw0 hw1 hm0 hm1 C0 C1 cut
  go_enter Try.func4, Try.ntmps4
  go_wp2_with (fail)
  refine (newL w.heap.size w (Nat.le_refl _)).mono ?_
  rintro e X1 ⟨rfl, L1, b1, hs1⟩
  have HS1 := Lib.hid (And.intro L1 (And.intro b1 hs1))
  clear L1 b1 hs1
  go_wp2_with (fail)
  refine (newL w.heap.size X1 HS1.out.2.1.size).mono ?_
  rintro e X2 ⟨rfl, L2, bb2, hs2⟩
  obtain ⟨L1, b1, hs1⟩ := HS1.out
  have L1 := L1.below bb2
  have b2 : Below w.heap.size w X2 := b1.trans (bb2.mono b1.size)
  rw [hs1] at L2 ⊢
  clear HS1 bb2 b1 hs1 hs2
  have hng : ∀ b, Own (w.heap.size + 1) (.slice none 0 0) b → ¬ Own w.heap.size (.slice none 0 0) b := fun b h1 h2 => by
    have := own_new h1; have := own_new h2; omega
  have HI : ChunkI w la 0 (.slice none 0 0) X2 := ⟨_, L1, L2, SegRow.nil _ _ _, b2, hng⟩
  have HI := Lib.hid HI
  clear L1 L2 b2 hng
  go_wp2_with (fail)
  go_loopw [7, 8, 9] (fun v t u X => ∃ a i : Nat, t = .int .i64 (a : Int) ∧ u = .int .i64 (i : Int) ∧ a ≤ la.length ∧ i ≤ 100000 ∧ (a < la.length → i ≤ 300) ∧ ChunkI w la a v X) (fun _ t u _ => (300 - (intV u).toNat) + (la.length - (intV t).toNat))
  case atStart => exact ⟨0, 0, rfl, rfl, Nat.zero_le _, by omega, by omega, HI.out⟩
  case round =>
    obtain ⟨a, i, rfl, rfl, ha, hi, hi3, hI⟩ := hrel
    have HR := Lib.hid hI
    clear hI HI
    by_cases hlt : a < la.length
    · have hlt2 : ((a : Int) < (la.length : Int)) = True := eq_true (by omega)
      obtain ⟨ad, rfl, -⟩ := HD.out.1.2.2 (by omega)
      by_cases hc : i < l1.length ∧ i < 300
      · obtain ⟨ad1, rfl, hcell⟩ := Kd.at_int (Kd.C_below HD.out.2 HR.out.below) (i : Int) (by omega) (by omega)
        rw [Int.toNat_natCast] at hcell
        generalize rd l1 (i : Int) = y at *
        obtain ⟨q, hq20, hq⟩ : ∃ q : Nat, q < 20 ∧ (IntKind.u64.wrap y).tmod 20 = (q : Int) := tmod20 y
        have hqw : wrap64 (q : Int) = (q : Int) := w64n (Nat.lt_trans hq20 (by decide))
        obtain ⟨m, hm, hmq⟩ : ∃ m : Nat, a + m ≤ la.length ∧ (if (q : Int) < (la.length : Int) - (a : Int) then (q : Int) else (la.length : Int) - (a : Int)) = (m : Int) := mn2 q a la.length ha
        have hx1 : ((i : Int) < (l1.length : Int)) = True := eq_true (by omega)
        have hx2 : ((i : Int) < 300) = True := eq_true (by omega)
        go_wp2_with (fail)
        refine (chunk_step (m := m) HR.out HD.out.1 (by omega) hla hca).mono ?_
        rintro e X1 ⟨A, n, c, rfl, v2, X2, hrun, hI2⟩
        obtain ⟨k, hk, hh⟩ := chunk_held hI2
        have hk2 : ((255 : Int) < (k : Int)) = False := eq_false (by omega)
        have HI2 := Lib.hid (And.intro hI2 hh)
        clear hI2 hh
        go_wp2_with (at_builtin; refine run_app (.tmp 51) (.tmp 59) 28 rfl rfl hrun ?_)
        refine HI2.out.2.mono ?_
        rintro e X3 ⟨rfl, rfl⟩
        go_wp2_with (fail)
        refine ⟨⟨a + m, i + 1, by first | rfl | (simp; omega), by simp, by omega, by omega, by omega, HI2.out.1⟩, by simp [intV]; omega⟩
      · have hx : ((i : Int) < (l1.length : Int) ∧ (i : Int) < 300) = False := eq_false (by omega)
        by_cases hx1 : i < l1.length
        · have hx1 : ((i : Int) < (l1.length : Int)) = True := eq_true (by omega)
          have hx2 : ((i : Int) < 300) = False := eq_false (by omega)
          go_wp2_with (fail)
          refine (chunk_step (m := (la.length - a)) HR.out HD.out.1 (by omega) hla hca).mono ?_
          rintro e X1 ⟨A, n, c, rfl, v2, X2, hrun, hI2⟩
          obtain ⟨k, hk, hh⟩ := chunk_held hI2
          have hk2 : ((255 : Int) < (k : Int)) = False := eq_false (by omega)
          have HI2 := Lib.hid (And.intro hI2 hh)
          clear hI2 hh
          go_wp2_with (at_builtin; refine run_app (.tmp 51) (.tmp 59) 28 rfl rfl hrun ?_)
          refine HI2.out.2.mono ?_
          rintro e X3 ⟨rfl, rfl⟩
          go_wp2_with (fail)
          refine ⟨⟨a + (la.length - a), i + 1, by first | rfl | (simp; omega), by simp, by omega, by omega, by omega, HI2.out.1⟩, by simp [intV]; omega⟩
        · have hx1 : ((i : Int) < (l1.length : Int)) = False := eq_false (by omega)
          go_wp2_with (fail)
          refine (chunk_step (m := (la.length - a)) HR.out HD.out.1 (by omega) hla hca).mono ?_
          rintro e X1 ⟨A, n, c, rfl, v2, X2, hrun, hI2⟩
          obtain ⟨k, hk, hh⟩ := chunk_held hI2
          have hk2 : ((255 : Int) < (k : Int)) = False := eq_false (by omega)
          have HI2 := Lib.hid (And.intro hI2 hh)
          clear hI2 hh
          go_wp2_with (at_builtin; refine run_app (.tmp 51) (.tmp 59) 28 rfl rfl hrun ?_)
          refine HI2.out.2.mono ?_
          rintro e X3 ⟨rfl, rfl⟩
          go_wp2_with (fail)
          refine ⟨⟨a + (la.length - a), i + 1, by first | rfl | (simp; omega), by simp, by omega, by omega, by omega, HI2.out.1⟩, by simp [intV]; omega⟩
    · have hae : a = la.length := by omega
      subst hae
      have hlt2 : ((la.length : Int) < (la.length : Int)) = False := eq_false (by omega)
      clear hlt hi3
      go_wp2_with (fail)
      refine (known_call wr).mono ?_
      rintro e X0 ⟨rfl, b0⟩
      have hI0 : ChunkI w la la.length u7 X0 := HR.out.step b0
      have H0 := Lib.hid hI0
      clear hI0 b0
      go_wp2_with (fail)
      refine (chunk_one H0.out HD.out.1 hla hca).mono ?_
      rintro e X1 ⟨A, B, c, d, rfl, rfl, CA, CB, b1, vh, vh', L1, L2⟩
      have hlen : (sgs [] 0 0 la).length ≤ 1000000 := Nat.le_trans (sgs_len _ _ _ _) (by omega)
      generalize hK : sgs [] 0 0 la = K at *
      have H1 := Lib.hid (And.intro CA (And.intro CB (And.intro b1 (And.intro L1 L2))))
      clear CA CB b1 L1 L2 hK
      go_wp2_with (fail)
      refine (same_call X1 A B c d K H1.out.1 H1.out.2.1 hlen).mono ?_
      rintro e X2 ⟨rfl, b2⟩
      have H2 := Lib.hid (And.intro (H1.out.2.2.2.1.below b2) (And.intro (H1.out.2.2.2.2.below b2) (H1.out.2.2.1.trans (b2.mono H1.out.2.2.1.size))))
      clear b2
      go_wp2_with (fail)
      refine (heldL H2.out.1).mono ?_
      rintro e X3 ⟨rfl, rfl⟩
      go_wp2_with (fail)
      refine (heldL H2.out.2.1).mono ?_
      rintro e X3 ⟨rfl, rfl⟩
      go_wp2_with (fail)
      refine (fedL H2.out.1).mono ?_
      rintro e X3 ⟨rfl, rfl⟩
      go_wp2_with (fail)
      refine (fedL H2.out.2.1).mono ?_
      rintro e X3 ⟨rfl, rfl⟩
      go_wp2_with (fail)
      exact bodyPost_ret (v := .bool true) (by simp [results, Try.results4, go_sem]) rfl ⟨rfl, H2.out.2.2⟩
end Go.Proofs.Ytmkhhnhoodneeaa.P
