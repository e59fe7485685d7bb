/- In whatever parts bytes are fed, segments and what is held are the document's: ScanFeeds answers true for all inputs. -/
import Derived.Test.YtmkhhnhoodneeaaPls
import Derived.Test.YtmkhhnhoodneeaaCpy
import Derived.Test.YtmkhhnhoodneeaaFdx
set_option linter.unusedVariables false
set_option linter.unusedSimpArgs false
namespace Go.Proofs.Ytmkhhnhoodneeaa.P
open Go.RowKit Go.Proofs.YtmkhhnhoodneeaaW.PrintWords Go.Proofs.YtmkhhnhoodneeaaW.PrintMore Go.Proofs.Ytmkhhnhoodneeaa
attribute [local go_sem] max2_int min2_int max_two min_two max_three min_three max_four min_four
attribute [local go_sem] Oper.semAt_some

theorem R_ok {W : World} {base : Nat} {ok ok' : Nat → Prop} {v : Value} {xs : List Int} (h : (Kd.int .u8).R 5 W base ok v xs) (hok : ∀ k, v.ownBlock = some k → ok' k) : (Kd.int .u8).R 5 W base ok' v xs := Kd.R_of_own (Kd.own_of_R h) hok
/-- Feed, beside another scanner's blocks. -/
theorem feedLX (X0 : Nat → Prop) (w W : World) (g : Nat) (A : Option Addr) (c : Nat) (l : List Int) (vh : Value) (xs : List Int) (n fed : Nat) (hL : Live w.heap.size W g vh xs n fed) (hb : Below w.heap.size w W) (hf : fed + l.length ≤ 1000000) (hc : l.length ≤ c) (hr : (Kd.int .u8).C w A l.length l) (hX : ∀ b, X0 b → b < W.heap.size) (hXg : ∀ b, Own g vh b → ¬ X0 b) :
    Calls Try.prog 11 #[.pointer (some ⟨g, 0, none⟩), .slice A l.length c] W fun e W' => ∃ (v vh' : Value), e = .returned v ∧ Live w.heap.size W' g vh' (hld xs n l).1 (hld xs n l).2 (fed + l.length) ∧ SegRow W.heap.size W' (fun b => Own g vh' b ∨ X0 b) v (sgs xs n fed l) ∧ Below w.heap.size w W' ∧ Stab (Own g vh) W.heap.size W W' ∧ (∀ b, Own g vh' b → Own g vh b ∨ W.heap.size ≤ b) := by
  have hF : Kd.F (Kd.int .u8) W (fun k => k < w.heap.size) A l.length l := Kd.F_step (Kd.C_F (Kd.heap_int .u8) hr) (fun k hk _ => hb.block k hk)
  refine (feed_callX X0 (fun k => k < w.heap.size) W g w.heap.size A c l vh xs n fed hL.1 (R_ok hL.2.1 (fun k hk => ⟨hL.2.1.1 k hk, hXg k (.inr hk)⟩)) hL.2.2.1 hL.2.2.2.1 hf hc hF (fun b hb' => ⟨Nat.lt_of_lt_of_le hb' hb.size, fun h => by have := hL.own_ge h; omega⟩) hL.2.2.2.2.2 hX).mono ?_
  rintro e W' ⟨v, vh', rfl, hS, hg, hR, hs, ho⟩
  exact ⟨v, vh', rfl, ⟨hg, R_ok hR (fun k hk => (hR.1 k hk).1), hld_len l xs n hL.2.2.1, by have := hld_le l xs n; have := hL.2.2.2.1; omega, hL.2.2.2.2.1, Nat.le_trans hL.2.2.2.2.2 hs.size⟩, hS, hs.below hb hb.size hb.size (fun b h1 h2 => by have := hL.own_ge h2; omega), hs, ho⟩
theorem wi {i : Nat} (h : i < 1000) : wrap64 ((i : Int) + 1) = ((i + 1 : Nat) : Int) := by unfold wrap64; omega
/-- Between two parts: al is what was fed. -/
def FdsI (w : World) (al : List Int) (v : Value) (X : World) : Prop :=
  ∃ vh, Live w.heap.size X w.heap.size vh (crop (opn [] al)) (opn [] al).length al.length ∧ (Kd.int .u8).R 5 X w.heap.size (fun k => ¬ Own w.heap.size vh k) v al ∧ Below w.heap.size w X
theorem FdsI.slice {w : World} {al : List Int} {v : Value} {X : World} (h : FdsI w al v X) : ∃ A c, v = .slice A al.length c := by
  obtain ⟨vh, h1, h2, h3⟩ := h
  exact Kd.R_slice h2
theorem FdsI.step {w : World} {al : List Int} {v : Value} {X Y : World} (h : FdsI w al v X) (hb : Below X.heap.size X Y) : FdsI w al v Y := by
  obtain ⟨vh, h1, h2, h3⟩ := h
  exact ⟨vh, h1.below hb, Kd.R_below h2 hb, h3.trans (hb.mono h3.size)⟩

set_option maxRecDepth 100000 in
set_option maxHeartbeats 4000000 in
theorem cuneiformlaw09_ScanFeeds.walk (a0 : Option Addr) (c0 : Nat) (ls : List (List Int)) (w : World) (D0 : (Kd.slice 5 (Kd.int .u8)).C w a0 ls.length ls) (hc : ls.length ≤ c0) :
    Calls Try.prog 7 #[.slice a0 ls.length c0] w fun e w' => e = .returned (.bool true) ∧ Below w.heap.size w w' := by
  have hlm : ls.length ≤ 9223372036854775807 := D0.2.1
  have HD := Lib.hid D0
  clear D0
  go_enter Try.func7, Try.ntmps7
  go_wp2_with (fail)
  refine (newL w.heap.size w (Nat.le_refl _)).mono ?_
  rintro e X1 ⟨rfl, L1, b1, hs1⟩
  have HI : FdsI w [] (.slice none 0 0) X1 := ⟨_, L1, Kd.R_nil _ _ _ _ _, b1⟩
  have HI := Lib.hid HI
  clear L1 b1 hs1
  go_wp2_with (fail)
  go_loopw [4, 5] (fun v t X => ∃ (i : Nat) (al : List Int), t = .int .i64 (i : Int) ∧ i ≤ 20 ∧ i ≤ ls.length ∧ al.length ≤ 400 * i ∧ FdsI w al v X) (fun _ t _ => 20 - (intV t).toNat)
  case atStart => exact ⟨0, [], rfl, by omega, by omega, by simp, HI.out⟩
  case round =>
    obtain ⟨i, al, rfl, hi, hil, hal, hI⟩ := hrel
    clear HI
    by_cases hlt : i < ls.length ∧ i < 20
    · have hx1 : ((i : Int) < (ls.length : Int)) = True := eq_true (by omega)
      have hx2 : ((i : Int) < 20) = True := eq_true (by omega)
      obtain ⟨vh, hL, hR, hb⟩ := hI
      obtain ⟨ad, A, c, rfl, hcell, hcl, hC⟩ := at_L1 (Kd.C_below HD.out hb) (i : Int) (by omega) (by omega)
      obtain ⟨ad', A', c', e', hcell', hcl', hC'⟩ := at_L1 HD.out (i : Int) (by omega) (by omega)
      cases e'
      rw [Int.toNat_natCast] at hcell hcell'
      have hcw := pw_cell_below hb hcell'
      rw [hcell] at hcw
      cases hcw
      generalize rd_L1 ls (i : Int) = lp at *
      obtain ⟨A4, c4, rfl⟩ := Kd.R_slice hR
      have hD : (Kd.int .u8).C w A (lp.take 400).length (lp.take 400) := by
        rcases Nat.le_total lp.length 400 with q | q
        · rw [List.take_of_length_le q]; exact hC'
        · have := C_take (m := 400) hC' q; rwa [List.length_take, Nat.min_eq_left q]
      have hm0 : (if (400 : Int) < (lp.length : Int) then (400 : Int) else (lp.length : Int)) = ((lp.take 400).length : Int) := by rw [List.length_take]; split <;> omega
      have hla : (lp.take 400).length ≤ 400 := by simp; omega
      have hca : (lp.take 400).length ≤ c := by simp; omega
      have hc1 : ((lp.take 400).length ≤ lp.length) = True := eq_true (by simp; omega)
      have hc2 : ((lp.take 400).length ≤ c) = True := eq_true hca
      generalize lp.take 400 = la at *
      have HR := Lib.hid (And.intro hL (And.intro hR (And.intro hb hD)))
      clear hL hR hb hD hC hC' hcell'
      go_wp2_with (fail)
      have b0 : Below wr.heap.size wr wr.drew := (Below.refl _ wr).drew
      have hcd := pw_cell_below b0 hcell
      obtain ⟨V, hV⟩ : ∃ V, wr.drew = V := ⟨_, rfl⟩
      refine wp_region_hoist [(0, true), (1, true), (2, true), (3, true), (4, true), (5, true), (6, true), (7, true), (8, true), (9, true), (10, true), (11, true)] (fun w' => w'.cell? (ad.add i) = some (.slice A lp.length c)) (by kernel_rfl) (by kernel_rfl) ?_
      rw [hV] at b0 hcd ⊢
      clear hV hcell
      iterate 12 (apply wpH_readL _ rfl rfl rfl; (· (intro w' hw'; go_simp; exact ⟨rfl, rfl⟩)); simp only [List.set_cons_zero, List.set_cons_succ])
      refine wpH_end hcd ?_
      have H1 := Lib.hid (And.intro (HR.out.1.below b0) (And.intro (Kd.R_below HR.out.2.1 b0) (And.intro (HR.out.2.2.1.trans (b0.mono HR.out.2.2.1.size)) HR.out.2.2.2)))
      have hDw := HR.out.2.2.2
      have HDW := Lib.hid hDw
      clear hDw b0 hcd HR hm0 hc1 hc2
      have hop := opn_len al []
      have hcr := Kd.R_reads' H1.out.2.1
      go_wp2_with (fail)
      refine (cuneiformref09_All.calls (al.length + 1) A4 c4 al _ _ V hcr.2.2 hcr.2.1 (all_f al (by omega) (al.length + 1) (by omega))).mono ?_
      rintro e V1 ⟨v0, v1, rfl, N0, R0, B1⟩
      obtain ⟨A7, c7, rfl, -, -⟩ := Kd.N_reads N0
      obtain ⟨A8, c8, rfl⟩ := Kd.R_slice R0
      clear N0 R0 hcr
      have L1 := H1.out.1.below B1
      have R1 := Kd.R_below H1.out.2.1 B1
      have b1 : Below w.heap.size w V1 := H1.out.2.2.1.trans (B1.mono H1.out.2.2.1.size)
      obtain ⟨v4, V2, hrun, R2, g2, at2⟩ := run_app_row (P := Try.prog) (t := 22) (e := 5) (ty := 22) (c := c) .u8 Try.underlying22 infoB (by decide) R1 (Kd.C_below H1.out.2.2.2 b1) (fun k hk h => by have := L1.own_lt h; omega) L1.2.2.2.2.2 (by omega)
      have sg : Stab (fun b => (Value.slice A4 al.length c4).ownBlock = some b) V1.heap.size V1 V2 := Stab.grownT (T := fun b => (Value.slice A4 al.length c4).ownBlock = some b) g2 (fun k hk => hk)
      have L2 := L1.step sg (fun b h1 h2 => R1.1 b h2 h1)
      have b2 : Below w.heap.size w V2 := b1.grown g2 b1.size (fun k hk => Kd.R_base R1 k hk)
      obtain ⟨A5, c5, ev⟩ := Kd.R_slice R2
      have hll : (al ++ la).length = al.length + la.length := List.length_append
      generalize hal2 : al ++ la = al2 at *
      subst ev
      have HLL := Lib.hid (And.intro hll hal2)
      clear hll hal2
      have H2 := Lib.hid (And.intro L2 (And.intro R2 b2))
      clear L1 R1 b1 L2 R2 b2 sg g2 at2 B1
      have hcr := Kd.R_reads' H2.out.2.1
      go_wp2_with (at_builtin; refine run_app (.tmp 43) (.tmp 44) 22 rfl rfl hrun ?_)
      refine (cuneiformref09_All.calls (al2.length + 1) A5 c5 al2 _ _ V2 hcr.2.2 hcr.2.1 (all_f al2 (by have := HLL.out.1; omega) (al2.length + 1) (by omega))).mono ?_
      rintro e V3 ⟨v0, v1, rfl, N0, R0, B3⟩
      obtain ⟨A9, c9, rfl, -, -⟩ := Kd.N_reads N0
      obtain ⟨A10, c10, rfl⟩ := Kd.R_slice R0
      have hN : ∀ k, (V2.heap.size ≤ k ∧ some k ≠ (Value.slice A10 (opn [] al2).length c10).ownBlock) → ¬ Own w.heap.size _ k := fun k hk h => by have := H2.out.1.own_lt h; omega
      have H3 := Lib.hid (And.intro (H2.out.1.below B3) (And.intro (Kd.R_below H2.out.2.1 B3) (And.intro (H2.out.2.2.trans (B3.mono H2.out.2.2.size)) (And.intro N0 hN))))
      clear N0 R0 hN B3 hcr H2 hrun H1
      go_wp2_with (fail)
      refine (copy_call V3 w.heap.size vh _ _ _ w.heap.size H3.out.1.1 H3.out.1.2.1 H3.out.1.2.2.1.1).mono ?_
      rintro e V4 ⟨g', v', rfl, hg', S4, R4, B4⟩
      have hbase : w.heap.size ≤ V3.heap.size := H3.out.2.2.1.size
      have L4 := H3.out.1.below B4
      have Q4 := Kd.R_below H3.out.2.1 B4
      have b4 : Below w.heap.size w V4 := H3.out.2.2.1.trans (B4.mono hbase)
      have N4 := Kd.N_below (Kd.N_bound H3.out.2.2.2.1) B4
      have C4 : Live w.heap.size V4 g' v' (crop (opn [] al)) (opn [] al).length al.length := ⟨S4, Kd.R_lower R4 hbase, H3.out.1.2.2.1, H3.out.1.2.2.2.1, by omega, Nat.le_trans hbase B4.size⟩
      have hXg : ∀ b, Own w.heap.size vh b → ¬ Own g' v' b := fun b h1 h2 => by
        have q1 := H3.out.1.own_lt h1
        rcases h2 with h2 | h2
        · omega
        · have := Kd.R_base R4 b h2; omega
      have hXge : ∀ b, Own g' v' b → V3.heap.size ≤ b := fun b h2 => by
        rcases h2 with h2 | h2
        · omega
        · exact Kd.R_base R4 b h2
      have hall : ∀ k, (Value.slice A5 al2.length c5).ownBlock = some k → k < V3.heap.size := fun k hk => Kd.R_lt H3.out.2.1 k hk
      have H4 := Lib.hid (And.intro L4 (And.intro Q4 (And.intro b4 (And.intro N4 (And.intro C4 (And.intro hXg (And.intro hXge (And.intro hall H3.out.2.2.2.2))))))))
      clear L4 Q4 b4 N4 C4 hXg hXge hall S4 R4 B4 H3 hg' hbase
      go_wp2_with (fail)
      have hq : hld (crop (opn [] al)) (opn [] al).length la = (crop (opn [] al2), (opn [] al2).length) := by rw [hld_opn, ← opn_app, HLL.out.2]
      have hsg : sgs (crop (opn [] al)) (opn [] al).length al.length la = (spl (opn [] al) al.length la).map seg39 := sgs_spl la (opn [] al) al.length (by simpa using hop)
      have hFs := feedLX (Own g' v') w V4 w.heap.size A c la vh _ _ al.length H4.out.1 H4.out.2.2.1 (by omega) hca HDW.out (fun b h => H4.out.2.2.2.2.1.own_lt h) H4.out.2.2.2.2.2.1
      rw [hq, hsg, ← HLL.out.1] at hFs
      refine hFs.mono ?_
      clear hFs
      rintro e V5 ⟨vl, vh5, rfl, L5, S5, b5, s5, o5⟩
      obtain ⟨A12, c12, rfl⟩ := S5.slice
      have C5 := H4.out.2.2.2.2.1.step s5 (fun b h1 h2 => H4.out.2.2.2.2.2.1 b h2 h1)
      have Q5 : (Kd.int .u8).R 5 V5 w.heap.size (fun k => ¬ Own w.heap.size vh5 k ∧ ¬ Own g' v' k) (.slice A5 al2.length c5) al2 := R_ok (R_own_same H4.out.2.1 (fun k hk => by
        obtain ⟨cells, hcs⟩ := Kd.R_typed H4.out.2.1 k hk
        rw [hcs]; exact s5.block hcs (H4.out.2.1.1 k hk) rfl)) (fun k hk => ⟨fun h => by
          rcases o5 k h with h | h
          · exact H4.out.2.1.1 k hk h
          · have := Kd.R_lt H4.out.2.1 k hk; omega, fun h => by
          have q1 := H4.out.2.2.2.2.2.2.1 k h
          have q2 := H4.out.2.2.2.2.2.2.2.1 k hk
          omega⟩)
      have N5 := Kd.N_step H4.out.2.2.2.1 (w1 := V5) (fun k hk hlt => by
        rw [Array.getElem?_eq_getElem hlt]
        exact s5.same _ _ (Array.getElem?_eq_getElem hlt) (H4.out.2.2.2.2.2.2.2.2 k hk.1) (.inr hlt))
      have hsep : ∀ b, Own w.heap.size vh5 b → ¬ Own g' v' b := fun b h1 h2 => by
        rcases o5 b h1 with h | h
        · exact H4.out.2.2.2.2.2.1 b h h2
        · have := H4.out.2.2.2.2.1.own_lt h2; omega
      have H5 := Lib.hid (And.intro L5 (And.intro S5 (And.intro b5 (And.intro C5 (And.intro Q5 (And.intro N5 (And.intro hsep H4.out.2.2.2.2.2.2.1)))))))
      clear L5 S5 b5 s5 o5 C5 Q5 N5 hsep H4
      have hw64 : IntKind.u64.wrap (al2.length : Int) = (al2.length : Int) := u64_id (by omega) (by have := HLL.out.1; omega)
      have HQ := Lib.hid (And.intro hq hsg)
      have hspl : spl [] 0 al2 = spl [] 0 al ++ spl (opn [] al) al.length la := by rw [← HLL.out.2, spl_app, Nat.zero_add]
      have hsl := spl_len al2 [] 0
      have HSP := Lib.hid (And.intro hspl hsl)
      clear hq hsg hspl hsl
      by_cases h255 : 255 < (opn [] al2).length
      · have hcl : (crop (opn [] al2)).length = 0 := by simp [crop, h255]
        have h25 : ((255 : Int) < ((opn [] al2).length : Int)) = True := eq_true (by omega)
        go_wp2_with (fail)
        have hFc := feedL w V5 g' A c la v' _ _ al.length H5.out.2.2.2.1 H5.out.2.2.1 (by omega) hca HDW.out
        rw [HQ.out.1, HQ.out.2, ← HLL.out.1] at hFc
        refine hFc.mono ?_
        clear hFc
        rintro e V6 ⟨vl6, vc6, rfl, L6, S6, b6, s6, o6⟩
        obtain ⟨A11, c11, rfl⟩ := S6.slice
        have hBl : ((spl (opn [] al) al.length la).map seg39).length ≤ 1000000 := by have := spl_len la (opn [] al) al.length; rw [List.length_map]; omega
        have S5' := H5.out.2.1.step (s6.more (T' := fun b => Own w.heap.size vh5 b ∨ Own g' v' b) (fun b h => .inr h)) (T' := fun b => Own w.heap.size vh5 b ∨ Own g' v' b) (fun b hb => .inl hb)
        have L5' := H5.out.1.step s6 H5.out.2.2.2.2.2.2.1
        have Q6 : (Kd.int .u8).R 5 V6 w.heap.size (fun k => ¬ Own w.heap.size vh5 k) (.slice A5 al2.length c5) al2 := R_ok (R_own_same H5.out.2.2.2.2.1 (fun k hk => by
          obtain ⟨cells, hcs⟩ := Kd.R_typed H5.out.2.2.2.2.1 k hk
          rw [hcs]; exact s6.block hcs (H5.out.2.2.2.2.1.1 k hk).2 rfl)) (fun k hk => (H5.out.2.2.2.2.1.1 k hk).1)
        have N6 := Kd.N_step H5.out.2.2.2.2.2.1 (w1 := V6) (fun k hk hlt => by
          rw [Array.getElem?_eq_getElem hlt]
          exact s6.same _ _ (Array.getElem?_eq_getElem hlt) (fun h => by have := H5.out.2.2.2.2.2.2.2 k h; have := hk.2; omega) (.inr hlt))
        have CB := S5'.C hBl
        have N6r := Kd.N_reads' N6
        have hcB : ((spl (opn [] al) al.length la).map seg39).length ≤ c12 := by
          obtain ⟨h0, rows, hl, hR, hf⟩ := S5'
          have := Kd.R_reads' hR
          rw [← hl]; rw [← hl] at this; exact this.2.1
        have hsame := same_call V6 A11 A12 c11 c12 ((spl (opn [] al) al.length la).map seg39) (S6.C hBl) CB hBl
        have H6 := Lib.hid (And.intro L5' (And.intro Q6 (And.intro b6 (And.intro L6 (And.intro CB (And.intro N6r.2.2 (And.intro N6r.2.1 hcB)))))))
        clear S5' L5' Q6 N6 CB N6r hcB S6 L6 b6 s6 o6 H5 hBl
        go_wp2_with (fail)
        simp only [List.length_map] at hsame
        refine hsame.mono ?_
        clear hsame
        rintro e V7 ⟨rfl, b7⟩
        have hlaw := cuneiformlaw09_Same.calls ((spl (opn [] al) al.length la).length + 301) A12 c12 ((spl (opn [] al) al.length la).map seg39) A9 c9 ((spl [] 0 al2).map seg61) ((spl [] 0 al).length : Int) true V7 (Kd.C_below H6.out.2.2.2.2.1 b7) H6.out.2.2.2.2.2.2.2 (Kd.C_below H6.out.2.2.2.2.2.1 b7) H6.out.2.2.2.2.2.2.1 (by
          rw [HSP.out.1]
          exact law_f _ _ (by rw [← HSP.out.1]; have := HSP.out.2; have := HLL.out.1; omega) _ (by omega))
        have H7 := Lib.hid (And.intro (H6.out.1.below b7) (And.intro (Kd.R_below H6.out.2.1 b7) (And.intro (H6.out.2.2.1.trans (b7.mono H6.out.2.2.1.size)) (H6.out.2.2.2.1.below b7))))
        clear H6 b7
        simp only [List.length_map] at hlaw
        go_wp2_with (fail)
        refine hlaw.mono ?_
        clear hlaw
        rintro e V8 ⟨rfl, b8⟩
        have H8 := Lib.hid (And.intro (H7.out.1.below b8) (And.intro (Kd.R_below H7.out.2.1 b8) (And.intro (H7.out.2.2.1.trans (b8.mono H7.out.2.2.1.size)) (H7.out.2.2.2.below b8))))
        clear H7 b8
        go_wp2_with (fail)
        refine (heldL H8.out.1).mono ?_
        rintro e V9 ⟨rfl, rfl⟩
        go_wp2_with (fail)
        refine (fedL H8.out.1).mono ?_
        rintro e V9 ⟨rfl, rfl⟩
        go_wp2_with (fail)
        refine (openL H8.out.1).mono ?_
        rintro e V9 ⟨rfl, rfl⟩
        go_wp2_with (fail)
        refine (heldL H8.out.2.2.2).mono ?_
        rintro e V9 ⟨rfl, rfl⟩
        go_wp2_with (fail)
        clear hw64 hcl h25
        refine ⟨⟨i + 1, al2, by first | rfl | simp, by omega, by omega, by rw [HLL.out.1]; omega, ⟨vh5, H8.out.1, H8.out.2.1, H8.out.2.2.1⟩⟩, by simp [intV]; omega⟩
      · have hcl : (crop (opn [] al2)).length = (opn [] al2).length := by simp [crop, h255]
        have h25 : ((255 : Int) < ((opn [] al2).length : Int)) = False := eq_false (by omega)
        go_wp2_with (fail)
        have hFc := feedL w V5 g' A c la v' _ _ al.length H5.out.2.2.2.1 H5.out.2.2.1 (by omega) hca HDW.out
        rw [HQ.out.1, HQ.out.2, ← HLL.out.1] at hFc
        refine hFc.mono ?_
        clear hFc
        rintro e V6 ⟨vl6, vc6, rfl, L6, S6, b6, s6, o6⟩
        obtain ⟨A11, c11, rfl⟩ := S6.slice
        have hBl : ((spl (opn [] al) al.length la).map seg39).length ≤ 1000000 := by have := spl_len la (opn [] al) al.length; rw [List.length_map]; omega
        have S5' := H5.out.2.1.step (s6.more (T' := fun b => Own w.heap.size vh5 b ∨ Own g' v' b) (fun b h => .inr h)) (T' := fun b => Own w.heap.size vh5 b ∨ Own g' v' b) (fun b hb => .inl hb)
        have L5' := H5.out.1.step s6 H5.out.2.2.2.2.2.2.1
        have Q6 : (Kd.int .u8).R 5 V6 w.heap.size (fun k => ¬ Own w.heap.size vh5 k) (.slice A5 al2.length c5) al2 := R_ok (R_own_same H5.out.2.2.2.2.1 (fun k hk => by
          obtain ⟨cells, hcs⟩ := Kd.R_typed H5.out.2.2.2.2.1 k hk
          rw [hcs]; exact s6.block hcs (H5.out.2.2.2.2.1.1 k hk).2 rfl)) (fun k hk => (H5.out.2.2.2.2.1.1 k hk).1)
        have N6 := Kd.N_step H5.out.2.2.2.2.2.1 (w1 := V6) (fun k hk hlt => by
          rw [Array.getElem?_eq_getElem hlt]
          exact s6.same _ _ (Array.getElem?_eq_getElem hlt) (fun h => by have := H5.out.2.2.2.2.2.2.2 k h; have := hk.2; omega) (.inr hlt))
        have CB := S5'.C hBl
        have N6r := Kd.N_reads' N6
        have hcB : ((spl (opn [] al) al.length la).map seg39).length ≤ c12 := by
          obtain ⟨h0, rows, hl, hR, hf⟩ := S5'
          have := Kd.R_reads' hR
          rw [← hl]; rw [← hl] at this; exact this.2.1
        have hsame := same_call V6 A11 A12 c11 c12 ((spl (opn [] al) al.length la).map seg39) (S6.C hBl) CB hBl
        have H6 := Lib.hid (And.intro L5' (And.intro Q6 (And.intro b6 (And.intro L6 (And.intro CB (And.intro N6r.2.2 (And.intro N6r.2.1 hcB)))))))
        clear S5' L5' Q6 N6 CB N6r hcB S6 L6 b6 s6 o6 H5 hBl
        go_wp2_with (fail)
        simp only [List.length_map] at hsame
        refine hsame.mono ?_
        clear hsame
        rintro e V7 ⟨rfl, b7⟩
        have hlaw := cuneiformlaw09_Same.calls ((spl (opn [] al) al.length la).length + 301) A12 c12 ((spl (opn [] al) al.length la).map seg39) A9 c9 ((spl [] 0 al2).map seg61) ((spl [] 0 al).length : Int) true V7 (Kd.C_below H6.out.2.2.2.2.1 b7) H6.out.2.2.2.2.2.2.2 (Kd.C_below H6.out.2.2.2.2.2.1 b7) H6.out.2.2.2.2.2.2.1 (by
          rw [HSP.out.1]
          exact law_f _ _ (by rw [← HSP.out.1]; have := HSP.out.2; have := HLL.out.1; omega) _ (by omega))
        have H7 := Lib.hid (And.intro (H6.out.1.below b7) (And.intro (Kd.R_below H6.out.2.1 b7) (And.intro (H6.out.2.2.1.trans (b7.mono H6.out.2.2.1.size)) (H6.out.2.2.2.1.below b7))))
        clear H6 b7
        simp only [List.length_map] at hlaw
        go_wp2_with (fail)
        refine hlaw.mono ?_
        clear hlaw
        rintro e V8 ⟨rfl, b8⟩
        have H8 := Lib.hid (And.intro (H7.out.1.below b8) (And.intro (Kd.R_below H7.out.2.1 b8) (And.intro (H7.out.2.2.1.trans (b8.mono H7.out.2.2.1.size)) (H7.out.2.2.2.below b8))))
        clear H7 b8
        go_wp2_with (fail)
        refine (heldL H8.out.1).mono ?_
        rintro e V9 ⟨rfl, rfl⟩
        go_wp2_with (fail)
        refine (fedL H8.out.1).mono ?_
        rintro e V9 ⟨rfl, rfl⟩
        go_wp2_with (fail)
        refine (openL H8.out.1).mono ?_
        rintro e V9 ⟨rfl, rfl⟩
        go_wp2_with (fail)
        refine (heldL H8.out.2.2.2).mono ?_
        rintro e V9 ⟨rfl, rfl⟩
        go_wp2_with (fail)
        clear hw64 hcl h25
        refine ⟨⟨i + 1, al2, by first | rfl | simp, by omega, by omega, by rw [HLL.out.1]; omega, ⟨vh5, H8.out.1, H8.out.2.1, H8.out.2.2.1⟩⟩, by simp [intV]; omega⟩
    · have hend : ((i : Int) < (ls.length : Int)) = False ∨ ((i : Int) < (ls.length : Int)) = True ∧ ((i : Int) < 20) = False := by
        by_cases h1 : i < ls.length
        · exact .inr ⟨eq_true (by omega), eq_false (by omega)⟩
        · exact .inl (eq_false (by omega))
      obtain ⟨vh, hL, hR, hb⟩ := hI
      have HR := Lib.hid hb
      clear hL hR hb hlt
      rcases hend with h1 | ⟨h1, h2⟩
      all_goals (
        go_wp2_with (fail)
        refine (known_call wr).mono ?_
        rintro e W1 ⟨rfl, b1⟩
        go_wp2_with (fail)
        exact bodyPost_ret (v := .bool true) (by simp [results, Try.results7, go_sem]) rfl ⟨rfl, HR.out.trans (b1.mono HR.out.size)⟩)
end Go.Proofs.Ytmkhhnhoodneeaa.P
