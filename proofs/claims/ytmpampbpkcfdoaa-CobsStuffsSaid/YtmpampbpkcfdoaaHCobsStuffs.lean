/- Any bytes, stuffed, their blocks and their size: CobsStuffs answers true for all inputs. -/
import Derived.Test.YtmpampbpkcfdoaaRef
import Derived.RegionTactic
import Derived.Test.YtmpampbpkcfdoaaLast
import Derived.Deep.RegionHeld3
set_option linter.unusedVariables false
set_option linter.unusedSimpArgs false
namespace Go.Proofs.Ytmpampbpkcfdoaa.P
open Go.RowKit Go.Proofs.YtmpampbpkcfdoaaW.PrintWords Go.Proofs.YtmpampbpkcfdoaaW.PrintMore Go.Proofs.Ytmpampbpkcfdoaa.Ext Go.Proofs.Ytmpampbpkcfdoaa
attribute [local go_sem] max2_int min2_int max_two min_two max_three min_three max_four min_four
attribute [local go_sem] Oper.semAt_some

theorem lastOf {a b c d e : Prop} (h : a ∧ b ∧ c ∧ d ∧ e) : e := h.2.2.2.2
theorem eql_nil (f : Fn) (fi ca : Array Value) (w : World) : (binOp .eql 40 (.func f fi ca) .nilFunc).run Try.prog w = .ok (.bool false) w := by
  kernel_rfl
attribute [local go_sem] eql_nil

def intV : Value → Int
  | .int _ n => n
  | _ => 0
/-- Between two rounds: how many there were; the boxes stand. -/
def StuffI (m s : Nat) (vw : Value) (x2 : World) (k : Nat) (W : World) : Prop :=
  Boxed W (m + 1) 3 (.int .i64 (k : Int)) ∧ Boxed W m 37 vw ∧ Boxed W s 4 (.bool false) ∧ Below x2.heap.size x2 W ∧ m + 3 ≤ W.heap.size

set_option maxRecDepth 100000 in
set_option maxHeartbeats 4000000 in
theorem cuneiformlaw05_CobsStuffs.walk (a0 : Option Addr) (len0 cap0 : Nat) (z0 : List Int) (w : World) (w0 : (a0 = none ∧ len0 = 0 ∧ cap0 = 0 ∧ z0 = []) ∨ ∃ x, a0 = some x ∧ len0 ≤ cap0 ∧ cap0 ≤ maxLen ∧ z0.length = cap0 ∧ (∀ i, i < z0.length → w.cell? (x.add i) = some (.int .u8 (z0.getD i 0))) ∧ ∀ n ∈ z0, (Lit.int .u8 n).wf = true) (y0 : len0 * 1 ≤ 140737488351232) :
    Calls Try.prog 6 #[.slice a0 len0 cap0] w fun e w' => e = .returned (.bool true) ∧ Below w.heap.size w w' := by
  obtain ⟨l0, rfl, hr0, hm0, hw0, hc0⟩ := ReadsInt.ofRowC w0
  have C0 : (Kd.int .u8).C w a0 l0.length l0 := Kd.C_of_reads (d := (0 : Int)) (h1 := fun _ => rfl) hr0
  have e0 : (if (1000 : Int) < (l0.length : Int) then (1000 : Int) else (l0.length : Int)).toNat = (l0.take 1000).length := by rw [List.length_take]; split <;> omega
  have D0 : (Kd.int .u8).C w a0 (l0.take 1000).length (l0.take 1000) := by
    rcases Nat.le_total l0.length 1000 with h | h
    · rw [List.take_of_length_le h]; exact C0
    · have := C_take (m := 1000) (C0) h; rwa [List.length_take, Nat.min_eq_left h]
  have hm : (if (1000 : Int) < (l0.length : Int) then (1000 : Int) else (l0.length : Int)) = ((l0.take 1000).length : Int) := by rw [List.length_take]; split <;> omega
  have hla : (l0.take 1000).length ≤ 1000 := by simp; omega
  have hca : (l0.take 1000).length ≤ cap0 := by simp; omega
  have hcl : ((l0.take 1000).length ≤ l0.length) = True := eq_true (by simp; omega)
  have hcc : ((l0.take 1000).length ≤ cap0) = True := eq_true hca
  have hin : inByte (l0.take 1000) = true := by
    rw [inByte_iff]
    intro x hx
    exact wf_byte (hw0 x (List.mem_of_mem_take hx))
  generalize l0.take 1000 = la at *
  clear w0 hr0 hw0 hm0 e0 C0
  have hpos := enc_pos la
  have hlen : (enc (blks la)).length ≤ 1010 := by rw [enc_len]; have := szs_most la; omega
  have hby := enc_byte la hin
  have hno := enc_no0 la
  have hse : cobs_Encode.f la = some (enc (blks la)) := enc_f la (by omega)
  have hsr : cuneiformref05_Encode.f 2000 la = some (enc (blks la)) := renc_f la (by omega) 2000 (by omega)
  have hde : cobs_Decode.f (enc (blks la)) = some (la, 0) := by rw [dec_f _ (by omega) hby, decoded_enc]
  have hst : cobs_Stuffed.f (enc (blks la)) = some true := by unfold cobs_Stuffed.f; rw [hde]; rfl
  have hsz : cobs_Size.f la = some (((enc (blks la)).length : Nat) : Int) := by rw [size_f la (by omega), enc_len]
  have hbl : cuneiformref05_Blocks.f 2000 la = some (blks la) := rblocks_f la (by omega) 2000 (by omega)
  generalize enc (blks la) = s at *
  clear hpos hby hin
  refine (callsIn_wide (n := 5)).1 (callsIn_of_wp_marks Try.func6 rfl trivial ?_ rfl)
  simp only [Try.ntmps6, List.size_toArray, List.length_cons, List.length_nil, Nat.reduceAdd, Nat.reduceSub, Array.replicate_succ, Array.replicate_zero, List.push_toArray, List.append_toArray, List.nil_append, List.cons_append]
  refine wpIn_wide.2 ?_
  go_wp2_with (fail)
  have bX : Below w.heap.size w (w.alloc (.cells #[.bool false] 4)) := (Below.refl _ w).alloc (Nat.le_refl _) _
  obtain ⟨X, hX⟩ : ∃ X, (w.alloc (.cells #[.bool false] 4)) = X := ⟨_, rfl⟩
  have hsX : X.heap.size = w.heap.size + 1 := by rw [← hX]; simp
  have bR : Boxed X w.heap.size 4 (.bool false) := by rw [← hX]; exact Boxed.new w 4 (.bool false)
  rw [hX] at bX ⊢
  clear hX hm hcl hcc hc0 y0
  have D1 := Kd.C_below D0 bX
  refine (cobs_Encode.calls a0 cap0 la s X D1 hca hse).mono ?_
  rintro e x1 ⟨v1, rfl, R1, B1⟩
  obtain ⟨As, cs, rfl, hcs, Cs⟩ := Kd.R_reads R1
  have D2 := Kd.C_below D1 B1
  go_wp2_with (fail)
  refine (cuneiformref05_Encode.calls 2000 a0 cap0 la s x1 D2 hca hsr).mono ?_
  rintro e x2 ⟨v2, rfl, R2, B2⟩
  obtain ⟨Aw, cw, rfl, hcw, Cw⟩ := Kd.R_reads R2
  have Cs2 := Kd.C_below Cs B2
  have D3 := Kd.C_below D2 B2
  go_wp2_with (fail)
  refine (cobs_Decode.calls As cs s la 0 x2 Cs2 hcs hde).mono ?_
  rintro e x3 ⟨v3, rfl, R3, B3⟩
  obtain ⟨Ax, cx, rfl, hcx, Cx⟩ := Kd.R_reads R3
  have bX1 : Below X.heap.size X x1 := B1
  have bX2 : Below X.heap.size X x2 := B1.trans (B2.mono B1.size)
  have bX3 : Below X.heap.size X x3 := bX2.trans (B3.mono bX2.size)
  have Cs3 := Kd.C_below Cs2 B3
  have Cw3 := Kd.C_below Cw B3
  have D4 := Kd.C_below D3 B3
  have hbK : Below x3.heap.size x3 x3 := Below.refl _ _
  have K12a : ∀ Z, Below x3.heap.size x3 Z → Calls Try.prog 12 #[.slice As s.length cs, .slice Aw s.length cw] Z fun e w' => e = .returned (.bool true) ∧ Below x3.heap.size x3 w' := fun Z hZ =>
    (cuneiformref01_Same.calls (s.length + 1) As cs s Aw cw s true Z (Kd.C_below Cs3 hZ) hcs (Kd.C_below Cw3 hZ) hcw (by rw [same_f _ _ (by omega) _ (by omega), decide_eq_true rfl])).mono fun e w' h => ⟨h.1, hZ.trans (h.2.below.mono hZ.size)⟩
  have K7 : ∀ Z, Below x3.heap.size x3 Z → Calls Try.prog 7 #[.slice a0 la.length cap0] Z fun e w' => e = .returned (.int .i64 (s.length : Int)) ∧ Below x3.heap.size x3 w' := fun Z hZ =>
    (cobs_Size.calls a0 cap0 la _ Z (Kd.C_below D4 hZ) hca hsz).mono fun e w' h => ⟨h.1, hZ.trans (h.2.mono hZ.size)⟩
  have K12b : ∀ Z, Below x3.heap.size x3 Z → Calls Try.prog 12 #[.slice Ax la.length cx, .slice a0 la.length cap0] Z fun e w' => e = .returned (.bool true) ∧ Below x3.heap.size x3 w' := fun Z hZ =>
    (cuneiformref01_Same.calls (la.length + 1) Ax cx la a0 cap0 la true Z (Kd.C_below Cx hZ) hcx (Kd.C_below D4 hZ) hca (by rw [same_f _ _ (by omega) _ (by omega), decide_eq_true rfl])).mono fun e w' h => ⟨h.1, hZ.trans (h.2.below.mono hZ.size)⟩
  have K14 : ∀ Z, Below x3.heap.size x3 Z → Calls Try.prog 14 #[.slice As s.length cs] Z fun e w' => e = .returned (.bool true) ∧ Below x3.heap.size x3 w' := fun Z hZ =>
    (cobs_Stuffed.calls As cs s true Z (Kd.C_below Cs3 hZ) hcs hst).mono fun e w' h => ⟨h.1, hZ.trans (h.2.mono hZ.size)⟩
  have HX := Lib.hid (And.intro bX (And.intro bR (And.intro bX3 (And.intro Cs3 D4))))
  clear R1 B1 Cs R2 B2 Cw Cs2 R3 B3 Cx bX1 bX2 bX3 Cs3 Cw3 D1 D2 D3 D4 bX bR hse hsr hde hst hsz
  go_wp2_with (fail)
  refine (K12a _ hbK).mono ?_
  rintro e wK ⟨rfl, hbK⟩
  go_wp2_with (fail)
  refine (K7 _ hbK).mono ?_
  rintro e wK ⟨rfl, hbK⟩
  go_wp2_with (fail)
  refine (K12b _ hbK).mono ?_
  rintro e wK ⟨rfl, hbK⟩
  go_wp2_with (fail)
  refine (K14 _ hbK).mono ?_
  rintro e x4 ⟨rfl, hbK⟩
  clear K12a K7 K12b K14
  go_wp2_with (fail)
  go_loop [7] (fun t => ∃ i : Nat, t = .int .i64 (i : Int) ∧ i ≤ s.length) (fun t => s.length - (intV t).toNat)
  case atStart => exact ⟨0, rfl, Nat.zero_le _⟩
  case round =>
    obtain ⟨i, rfl, hi⟩ := hrel
    by_cases hlt : i < s.length
    · obtain ⟨ad, rfl, hcell⟩ := Kd.at_int (Kd.C_below HX.out.2.2.2.1 hbK) (i : Int) (by omega) (by omega)
      have hlt2 : ((i : Int) < (s.length : Int)) = True := eq_true (by omega)
      have hz : (rd s (i : Int) == 0) = false := by
        rw [rd_get hlt]
        have : s[i] ≠ 0 := fun e => hno (by rw [← e]; exact List.getElem_mem hlt)
        simpa using this
      rw [Int.toNat_natCast] at hcell
      generalize rd s (i : Int) = y at *
      go_wp2_with (fail)
      go_round
      case rel => exact ⟨i + 1, by simp, by omega⟩
      case measure => simp [intV]; omega
    · have hie : i = s.length := by omega
      subst hie
      clear hlt hi hno
      go_wp2_with (fail)
      have D5 := Kd.C_below HX.out.2.2.2.2 hbK
      refine (cuneiformref05_Blocks.calls 2000 a0 cap0 la (blks la) x4 D5 hca hbl).mono ?_
      rintro e y1 ⟨v1, rfl, S1, B1⟩
      obtain ⟨Al, cl, rfl, hcl, Cl⟩ := Kd.S_reads S1
      have bX3 := HX.out.2.2.1
      have bX4 : Below X.heap.size X x4 := bX3.trans (hbK.mono bX3.size)
      have bXy : Below X.heap.size X y1 := bX4.trans (B1.mono bX4.size)
      have bwy : Below w.heap.size w y1 := HX.out.1.trans (bXy.mono HX.out.1.size)
      have bRy : Boxed y1 w.heap.size 4 (.bool false) := (bXy.block w.heap.size (by omega)).trans HX.out.2.1
      have hsy : w.heap.size + 1 ≤ y1.heap.size := by have := bXy.size; omega
      have hb4 := blks_len la
      have HB := Lib.hid (And.intro bwy (And.intro bRy (And.intro Cl hcl)))
      clear S1 B1 D5 bX3 bX4 bXy bwy bRy Cl hcl hbl HX hbK
      generalize hbls : blks la = bl at *
      have HBL := Lib.hid hbls
      clear hbls
      go_wp2_with (go_at_call 17; refine (blocks_call _ _ _ _ rfl _).mono ?_; rintro e w' ⟨rfl, rfl⟩)
      have hbY : Below y1.heap.size y1 (((y1.alloc (.cells #[.slice Al bl.length cl] 37)).alloc (.cells #[.int .i64 0] 3)).alloc (.cells #[.slice a0 la.length cap0] 22)) := (((Below.refl _ y1).alloc (Nat.le_refl _) _).alloc (by simp) _).alloc (by simp; omega) _
      obtain ⟨Y, hY⟩ : ∃ Y, (((y1.alloc (.cells #[.slice Al bl.length cl] 37)).alloc (.cells #[.int .i64 0] 3)).alloc (.cells #[.slice a0 la.length cap0] 22)) = Y := ⟨_, rfl⟩
      have hsY : Y.heap.size = y1.heap.size + 3 := by rw [← hY]; simp
      have bW : Boxed Y y1.heap.size 37 (.slice Al bl.length cl) := by rw [← hY]; exact ((Boxed.new y1 37 _).alloc _).alloc _
      have bI : Boxed Y (y1.heap.size + 1) 3 (.int .i64 0) := by rw [← hY]; have := (Boxed.new (y1.alloc (.cells #[.slice Al bl.length cl] 37)) 3 (.int .i64 0)).alloc (.cells #[.slice a0 la.length cap0] 22); rwa [World.size_alloc] at this
      have bB : Boxed Y (y1.heap.size + 2) 22 (.slice a0 la.length cap0) := by rw [← hY]; have := Boxed.new ((y1.alloc (.cells #[.slice Al bl.length cl] 37)).alloc (.cells #[.int .i64 0] 3)) 22 (.slice a0 la.length cap0); rwa [World.size_alloc, World.size_alloc] at this
      rw [hY] at hbY ⊢
      have bRY : Boxed Y w.heap.size 4 (.bool false) := (hbY.block w.heap.size (by omega)).trans HB.out.2.1
      clear hY
      have hbwY : Below w.heap.size w Y := HB.out.1.trans (hbY.mono HB.out.1.size)
      refine wp_range0 (gf := 18) (lb := #[.pointer (some ⟨y1.heap.size + 2, 0, none⟩)]) rfl (enters_of Try.func18 (by kernel_rfl) rfl)
        (blocks1 w Y (y1.heap.size + 2) a0 cap0 la bB.cell hca D0 (by omega) hbwY) (fun b hb => by rcases hb with hb | hb <;> omega) (fun k vs T B W h => by obtain ⟨_, _, _, _, rfl, _⟩ := h; rfl)
        (StuffI y1.heap.size w.heap.size (.slice Al bl.length cl) y1) (fun _ _ _ => False) ?hI (fun _ _ _ _ h _ => h) ?h0 ?round ?done ?stop
      case hI =>
        rintro k W W' ⟨h1, h2, h3, h4, h5⟩ hs
        exact ⟨boxed_stab h1 hs (fun h => h), boxed_stab h2 hs (fun h => h), boxed_stab h3 hs (fun h => h), hs.below h4 (by omega) h4.size (fun _ _ h => h), Nat.le_trans h5 hs.size⟩
      case h0 => exact ⟨bI, bW, bRY, hbY, by omega⟩
      case round =>
        rintro l n k T W0 X0 vs hk ⟨h1, h2, h3, h4, h5⟩ hst ⟨xs, v2, hseg, hxl, rfl, hR⟩ hRb
        obtain ⟨A2, c2, rfl⟩ := Kd.R_slice hR
        rw [HBL.out] at hk hseg
        have hrk : rd_L1 bl (k : Int) = xs := by
          unfold rd_L1; rw [Int.toNat_natCast, List.getD_eq_getElem?_getD, hseg]; rfl
        have HK := Lib.hid hk
        clear hseg
        gi_wp2
        refine ⟨Below.refl _ _, fun W2 hs => ?_⟩
        have hs02 := hst.trans hs (fun b h => h.elim)
        have b1 := boxed_stab h1 hs02 (fun h => h)
        have b2 := boxed_stab h2 hs02 (fun h => h)
        have b3 := boxed_stab h3 hs02 (fun h => h)
        have hB5 : Below y1.heap.size y1 W2 := hs02.below h4 (by omega) h4.size (fun _ _ h => h)
        have hz : y1.heap.size + 3 ≤ W2.heap.size := Nat.le_trans h5 hs02.size
        have R2 := R_stab hR hs (fun _ _ h => h)
        obtain ⟨adw, Aw0, cw0, rfl, hcw, hcw0, Cw0⟩ := at_L1 (Kd.C_below HB.out.2.2.1 hB5) (k : Int) (by omega) (by omega)
        rw [Int.toNat_natCast] at hcw
        rw [hrk] at hcw hcw0 Cw0
        have hnl : (bl.length ≤ k) = False := eq_false (by omega)
        have hil : (k < bl.length) = True := eq_true hk
        have c1 := b1.cell
        have c3 := b2.cell
        have f1 := b1.frozen
        have HS := Lib.hid (And.intro hB5 (And.intro hz (And.intro R2 (And.intro hcw0 (And.intro Cw0 hrk)))))
        clear h1 h2 h3 h4 h5 hs02 hB5 hz R2 hR hst hs hcw0 Cw0 hrk
        gi_wp2_with (fail)
        obtain ⟨Ax2, cx2, ex, hcx2, Cx2⟩ := Kd.R_reads HS.out.2.2.1
        obtain ⟨rfl, -, rfl⟩ : A2 = Ax2 ∧ xs.length = xs.length ∧ c2 = cx2 := by simpa using ex
        refine (CallsIn.inRound l (callsIn_wide.2 (cuneiformref01_Same.calls (xs.length + 1) A2 c2 xs Aw0 cw0 xs true W2 Cx2 hcx2 HS.out.2.2.2.2.1 HS.out.2.2.2.1 (by rw [same_f _ _ (by omega) _ (by omega), decide_eq_true rfl])))).mono ?_
        rintro e W3 ⟨rfl, D3⟩
        have B3 := D3.below
        have s3 : Stab (fun _ => False) W2.heap.size W2 W3 := Stab.of_below B3
        have b1' := boxed_stab b1 s3 (fun h => h)
        have b2' := boxed_stab b2 s3 (fun h => h)
        have b3' := boxed_stab b3 s3 (fun h => h)
        have c1' := b1'.cell
        have f1' := b1'.frozen
        have HS3 := Lib.hid (And.intro B3 (And.intro (HS.out.1.trans (B3.mono HS.out.1.size)) (Nat.le_trans HS.out.2.1 B3.size)))
        have e : wrap64 ((k : Int) + 1) = ((k + 1 : Nat) : Int) := by have := HK.out; unfold wrap64; omega
        have HE := Lib.hid e
        clear B3 s3 b1 b2 b3 c1 c3 f1 ex hcx2 Cx2 D3 e hcw
        gi_wp2_with (fail)
        have hsz2 := HB.out.1.size
        exact ⟨(Keep.of_below HS3.out.1).trans (Keep.setCell _ (by simp; omega) _), (Books.of_below HS3.out.1).trans (Books.setCell _ _ _), (by rw [show ((k + 1 : Nat) : Int) = (k : Int) + 1 from rfl]; exact b1'.set _), b2'.kept (grownBy_setCell' W3 (y1.heap.size + 1) _) (by simp), b3'.kept (grownBy_setCell' W3 (y1.heap.size + 1) _) (by simp; omega), HS3.out.2.1.setCell (p := ⟨y1.heap.size + 1, 0, none⟩) (by simp) _, by have := HS3.out.2.2; simp [World.setCell]; omega⟩
      case done =>
        rintro D V ⟨h1, h2, h3, h4, h5⟩ hD hd
        rw [HBL.out] at h1
        have c1 := h1.cell
        have c2 := h2.cell
        have hBV : Below w.heap.size w V := HB.out.1.trans (h4.mono HB.out.1.size)
        have hLV := Lib.hid (show LastS w V w.heap.size 4 [D] V from ⟨⟨false, h3⟩, Nb.refl V, hBV, fun E hE => by rw [List.mem_singleton.1 hE]; exact hd⟩)
        obtain ⟨kk, hkk⟩ := known_true
        have K8 : ∀ X, Calls Try.prog 8 #[] X fun e w' => e = .returned (.bool true) ∧ Below X.heap.size X w' := fun X => cuneiformlaw05_known.calls kk true X hkk
        have HD := Lib.hid hD
        clear h1 h2 h3 h4 h5 hd hBV hkk
        go_wp2_with (fail)
        refine (K8 _).mono ?_
        rintro e V1 ⟨rfl, hb⟩
        have L1 := hLV.out.below hb
        have c1' := pw_cell_below hb c1
        have c2' := pw_cell_below hb c2
        have fB := L1.frozen
        have hcB := L1.cell
        have hF := L1.store (Nat.le_refl _) true
        have HF := Lib.hid (And.intro hF hF.told)
        clear K8 L1 hb c1 c2 hF
        go_wp2_with (fail)
        generalize V1.setCell ⟨w.heap.size, 0, none⟩ (.bool true) = V2 at *
        have hct := HF.out.2
        have HF := Lib.hid HF.out.1
        have hq1 : V2.heap[D]? = some (.deferred (some [])) := HF.out.2.2.2 D (by simp)
        have st1 : Stab (fun _ => False) w.heap.size V2 (V2.putObj D (.deferred none)) := stab_shut hq1 (by have := HD.out; omega)
        have hcb := st1.cell hct (fun h => h)
        refine marks_ret (v := .bool true) (by simp [results, Try.results6, Act.put, go_sem, hcb]) (by simp [Act.put]) hq1 ⟨rfl, ?_⟩
        exact st1.below HF.out.2.2.1 (Nat.le_refl _) HF.out.2.2.1.size (fun _ _ h => h)
      case stop =>
        rintro D c k W _ h
        exact h.elim
end Go.Proofs.Ytmpampbpkcfdoaa.P
