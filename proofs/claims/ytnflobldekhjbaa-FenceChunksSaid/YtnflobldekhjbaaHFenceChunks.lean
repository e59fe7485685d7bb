/- Bytes in parts of any sizes: FenceChunks answers true for all inputs. -/
import Derived.Test.YtnflobldekhjbaaLaws
import Derived.Test.YtnflobldekhjbaaCnt
import Derived.Test.YtnflobldekhjbaaChr
import Derived.RegionTactic
import Derived.Test.YtnflobldekhjbaaLast
set_option linter.unusedVariables false
set_option linter.unusedSimpArgs false
namespace Go.Proofs.Ytnflobldekhjbaa.P
open Go.RowKit Go.Proofs.YtnflobldekhjbaaW.PrintWords Go.Proofs.YtnflobldekhjbaaW.PrintMore Go.Proofs.Ytnflobldekhjbaa.Ext Go.Proofs.Ytnflobldekhjbaa
attribute [local go_sem] max2_int min2_int max_two min_two max_three min_three max_four min_four
attribute [local go_sem] Oper.semAt_some
attribute [local simp, local go_sem] wide_fn_eq' wide_depth_eq'

theorem eql_nil (f : Fn) (fi ca : Array Value) (w : World) : (binOp .eql 41 (.func f fi ca) .nilFunc).run Try.prog w = .ok (.bool false) w := by
  kernel_rfl
attribute [local go_sem] eql_nil

theorem chunks_call (v u : Value) (A : Option Addr) (n c : Nat) (hv : v = .slice A n c) (A2 : Option Addr) (n2 c2 : Nat) (hu : u = .slice A2 n2 c2) (w : World) : Calls Try.prog 16 #[v, u] w fun e w' => e = .returned (.func (.func 18) #[] #[.pointer (some ⟨w.heap.size + 1, 0, none⟩), .pointer (some ⟨w.heap.size, 0, none⟩)]) ∧ (w.alloc (.cells #[v] 22)).alloc (.cells #[u] 29) = w' := by
  subst hv hu
  go_enter Try.func16, Try.ntmps16
  go_wp2
  go_ret
  exact ⟨by simp, rfl⟩

/-- Between two rounds: the parts so far stand one behind the other; the boxes stand. -/
def ChI (m s : Nat) (vw : Value) (x2 : World) (L : List (List Int)) (k : Nat) (W : World) : Prop :=
  Boxed W (m + 2) 3 (.int .i64 (k : Int)) ∧ Boxed W m 23 vw ∧ Boxed W s 4 (.bool false) ∧ (∃ (A : Option Addr) (c : Nat) (ys : List Int), ys = (L.take k).flatten ∧ Boxed W (m + 1) 22 (.slice A ys.length c) ∧ (Kd.int .u8).R 5 W (m + 5) (fun _ => True) (.slice A ys.length c) ys) ∧ Below x2.heap.size x2 W ∧ m + 5 ≤ W.heap.size
theorem ChI.stab {m s n0 : Nat} {vw : Value} {x2 W W' : World} {L : List (List Int)} {k : Nat} {T : Nat → Prop} (h : ChI m s vw x2 L k W) (hT : ∀ b, T b → b = m + 3) (hs : Stab T n0 W W') (hx : x2.heap.size ≤ n0) (hm : x2.heap.size = m) (hsm : s < m) : ChI m s vw x2 L k W' := by
  obtain ⟨h1, h2, h3, ⟨A, c, ys, hy, h4, h5⟩, h6, h7⟩ := h
  refine ⟨boxed_stab h1 hs (fun h => by have := hT _ h; omega), boxed_stab h2 hs (fun h => by have := hT _ h; omega), boxed_stab h3 hs (fun h => by have := hT _ h; omega), ⟨A, c, ys, hy, boxed_stab h4 hs (fun h => by have := hT _ h; omega), Kd.R_mono (R_stab (Kd.R_bound h5) hs (fun k hk ht => by have := hT _ ht; have := hk.2.1; omega)) (fun _ _ => trivial)⟩, hs.below h6 hx h6.size (fun b hb ht => by have := hT _ ht; omega), Nat.le_trans h7 hs.size⟩
theorem flat_len (L : List (List Int)) (k : Nat) : ((L.take k).flatten).length ≤ L.flatten.length := by
  have : L.flatten = (L.take k).flatten ++ (L.drop k).flatten := by rw [← List.flatten_append, List.take_append_drop]
  rw [this, List.length_append]; omega

set_option maxRecDepth 100000 in
set_option maxHeartbeats 4000000 in
theorem cuneiformlaw06_FenceChunks.walk (a0 : Option Addr) (len0 cap0 : Nat) (z0 : List Int) (a1 : Option Addr) (len1 cap1 : Nat) (z1 : List Int) (w : World) (w0 : (a0 = none ∧ len0 = 0 ∧ cap0 = 0 ∧ z0 = []) ∨ ∃ x, a0 = some x ∧ len0 ≤ cap0 ∧ cap0 ≤ maxLen ∧ z0.length = cap0 ∧ (∀ i, i < z0.length → w.cell? (x.add i) = some (.int .u8 (z0.getD i 0))) ∧ ∀ n ∈ z0, (Lit.int .u8 n).wf = true) (y0 : len0 * 1 ≤ 140737488351232) (w1 : (a1 = none ∧ len1 = 0 ∧ cap1 = 0 ∧ z1 = []) ∨ ∃ x, a1 = some x ∧ len1 ≤ cap1 ∧ cap1 ≤ maxLen ∧ z1.length = cap1 ∧ (∀ i, i < z1.length → w.cell? (x.add i) = some (.int .i64 (z1.getD i 0))) ∧ ∀ n ∈ z1, (Lit.int .i64 n).wf = true) (y1 : len1 * 8 ≤ 140737488351232) :
    Calls Try.prog 6 #[.slice a0 len0 cap0, .slice a1 len1 cap1] w fun e w' => e = .returned (.bool true) ∧ Below w.heap.size w w' := by
  obtain ⟨l0, rfl, hr0, hm0, hw0, hc0⟩ := ReadsInt.ofRowC w0
  obtain ⟨l1, rfl, hr1, hm1, hw1, hc1⟩ := ReadsInt.ofRowC w1
  have C0 : (Kd.int .u8).C w a0 l0.length l0 := Kd.C_of_reads (d := (0 : Int)) (h1 := fun _ => rfl) hr0
  have C1 : (Kd.int .i64).C w a1 l1.length l1 := Kd.C_of_reads (d := (0 : Int)) (h1 := fun _ => rfl) hr1
  have D0 : (Kd.int .u8).C w a0 (l0.take 600).length (l0.take 600) := by
    rcases Nat.le_total l0.length 600 with h | h
    · rw [List.take_of_length_le h]; exact C0
    · have := C_take (m := 600) C0 h; rwa [List.length_take, Nat.min_eq_left h]
  have D1 : (Kd.int .i64).C w a1 (l1.take 20).length (l1.take 20) := by
    rcases Nat.le_total l1.length 20 with h | h
    · rw [List.take_of_length_le h]; exact C1
    · have := C_take (m := 20) C1 h; rwa [List.length_take, Nat.min_eq_left h]
  have hm0' : (if (600 : Int) < (l0.length : Int) then (600 : Int) else (l0.length : Int)) = ((l0.take 600).length : Int) := by rw [List.length_take]; split <;> omega
  have hm1' : (if (20 : Int) < (l1.length : Int) then (20 : Int) else (l1.length : Int)) = ((l1.take 20).length : Int) := by rw [List.length_take]; split <;> omega
  have hla : (l0.take 600).length ≤ 600 := by simp; omega
  have hlb : (l1.take 20).length ≤ 20 := by simp; omega
  have hca : (l0.take 600).length ≤ cap0 := by simp; omega
  have hcb : (l1.take 20).length ≤ cap1 := by simp; omega
  have hcc0 : ((l0.take 600).length ≤ cap0) = True := eq_true hca
  have hcc1 : ((l1.take 20).length ≤ cap1) = True := eq_true hcb
  clear w0 w1 hr0 hr1 hw0 hw1 hm0 hm1 C0 C1
  generalize l0.take 600 = la at *
  generalize l1.take 20 = sz at *
  refine (callsIn_wide (n := 5)).1 (callsIn_of_wp_marks Try.func6 rfl trivial ?_ rfl)
  simp only [Try.ntmps6, List.size_toArray, List.length_cons, List.length_nil, Nat.reduceAdd, Nat.reduceSub, Array.replicate_succ, Array.replicate_zero, List.push_toArray, List.append_toArray, List.nil_append, List.cons_append]
  refine wpIn_wide.2 ?_
  go_wp2_with (fail)
  refine wp_region_noPanic ?_
  go_region_law (fail)
  all_goals refine NoPanic.normal ?_
  all_goals (
    clear hm0' hm1' hcc0 hcc1 hc0 hc1 y0 y1
    obtain ⟨L, hL⟩ := chs_all sz hlb la hla
    have hLl := chs_len _ _ _ _ _ hL
    have hLf := chs_flat _ _ _ _ _ hL
    have HL := Lib.hid (And.intro hL (And.intro hLl hLf))
    clear hL hLl hLf
    have bX : Below w.heap.size w ((w.alloc (.cells #[.bool false] 4)).drew) := ((Below.refl _ w).alloc (Nat.le_refl _) _).drew
    obtain ⟨X, hX⟩ : ∃ X, ((w.alloc (.cells #[.bool false] 4)).drew) = X := ⟨_, rfl⟩
    have hsX : X.heap.size = w.heap.size + 1 := by rw [← hX]; simp
    have bR : Boxed X w.heap.size 4 (.bool false) := by rw [← hX]; exact Boxed.new w 4 (.bool false)
    rw [hX] at bX ⊢
    clear hX
    have DX := Kd.C_below D0 bX
    have DY := Kd.C_below D1 bX
    go_wp2_with (fail)
    refine (refChunks_call X a0 cap0 la a1 cap1 sz L HL.out.1 hca hcb DX DY (by omega) (by omega)).mono ?_
    rintro e x2 ⟨v2, rfl, R2, B2⟩
    obtain ⟨Aw, cw, rfl, hcw, Cw⟩ := R2.reads
    have bw2 : Below w.heap.size w x2 := bX.trans (B2.mono bX.size)
    have bR2 : Boxed x2 w.heap.size 4 (.bool false) := (B2.block w.heap.size (by omega)).trans bR
    have hs2 : w.heap.size + 1 ≤ x2.heap.size := by have := B2.size; omega
    have HB := Lib.hid (And.intro bw2 (And.intro bR2 (And.intro Cw hcw)))
    clear R2 B2 bw2 bR2 Cw hcw DX DY bX bR hsX
    go_wp2_with (go_at_call 16; refine (chunks_call _ _ _ _ _ rfl _ _ _ rfl _).mono ?_; rintro e w' ⟨rfl, rfl⟩)
    have hbY : Below x2.heap.size x2 (((((x2.alloc (.cells #[.slice Aw L.length cw] 23)).alloc (.cells #[.slice none 0 0] 22)).alloc (.cells #[.int .i64 0] 3)).alloc (.cells #[.slice a0 la.length cap0] 22)).alloc (.cells #[.slice a1 sz.length cap1] 29)) := (((((Below.refl _ x2).alloc (Nat.le_refl _) _).alloc (by simp) _).alloc (by simp; omega) _).alloc (by simp; omega) _).alloc (by simp; omega) _
    obtain ⟨Y, hY⟩ : ∃ Y, (((((x2.alloc (.cells #[.slice Aw L.length cw] 23)).alloc (.cells #[.slice none 0 0] 22)).alloc (.cells #[.int .i64 0] 3)).alloc (.cells #[.slice a0 la.length cap0] 22)).alloc (.cells #[.slice a1 sz.length cap1] 29)) = Y := ⟨_, rfl⟩
    have hsY : Y.heap.size = x2.heap.size + 5 := by rw [← hY]; simp
    have bW : Boxed Y x2.heap.size 23 (.slice Aw L.length cw) := by rw [← hY]; exact ((((Boxed.new x2 23 _).alloc _).alloc _).alloc _).alloc _
    have bA : Boxed Y (x2.heap.size + 1) 22 (.slice none 0 0) := by rw [← hY]; have := (((Boxed.new (x2.alloc (.cells #[.slice Aw L.length cw] 23)) 22 (.slice none 0 0)).alloc (.cells #[.int .i64 0] 3)).alloc (.cells #[.slice a0 la.length cap0] 22)).alloc (.cells #[.slice a1 sz.length cap1] 29); rwa [World.size_alloc] at this
    have bI : Boxed Y (x2.heap.size + 2) 3 (.int .i64 0) := by rw [← hY]; have := ((Boxed.new ((x2.alloc (.cells #[.slice Aw L.length cw] 23)).alloc (.cells #[.slice none 0 0] 22)) 3 (.int .i64 0)).alloc (.cells #[.slice a0 la.length cap0] 22)).alloc (.cells #[.slice a1 sz.length cap1] 29); rwa [World.size_alloc, World.size_alloc] at this
    have bB : Boxed Y (x2.heap.size + 3) 22 (.slice a0 la.length cap0) := by rw [← hY]; have := (Boxed.new (((x2.alloc (.cells #[.slice Aw L.length cw] 23)).alloc (.cells #[.slice none 0 0] 22)).alloc (.cells #[.int .i64 0] 3)) 22 (.slice a0 la.length cap0)).alloc (.cells #[.slice a1 sz.length cap1] 29); rwa [World.size_alloc, World.size_alloc, World.size_alloc] at this
    have bS : Boxed Y (x2.heap.size + 4) 29 (.slice a1 sz.length cap1) := by rw [← hY]; have := Boxed.new ((((x2.alloc (.cells #[.slice Aw L.length cw] 23)).alloc (.cells #[.slice none 0 0] 22)).alloc (.cells #[.int .i64 0] 3)).alloc (.cells #[.slice a0 la.length cap0] 22)) 29 (.slice a1 sz.length cap1); rwa [World.size_alloc, World.size_alloc, World.size_alloc, World.size_alloc] at this
    rw [hY] at hbY ⊢
    have bRY : Boxed Y w.heap.size 4 (.bool false) := (hbY.block w.heap.size (by omega)).trans HB.out.2.1
    clear hY
    have hbwY : Below w.heap.size w Y := HB.out.1.trans (hbY.mono HB.out.1.size)
    refine wp_range (gf := 18) (lb := #[.pointer (some ⟨x2.heap.size + 4, 0, none⟩), .pointer (some ⟨x2.heap.size + 3, 0, none⟩)]) rfl (enters_of Try.func18 (by kernel_rfl) rfl)
      (chunks1 w Y (x2.heap.size + 3) (x2.heap.size + 4) a0 cap0 la a1 cap1 sz L HL.out.1 bB bS (by omega) (by omega) hca hcb D0 D1 (by omega) (by omega) hbwY) rfl (fun b hb => by rcases hb with hb | hb <;> omega) (fun b hb => by omega) (fun k vs T B W h => by obtain ⟨_, _, _, rfl, _⟩ := h; rfl) (fun _ _ _ _ _ _ _ => trivial)
      (fun k T W => ChI x2.heap.size w.heap.size (.slice Aw L.length cw) x2 L k W) (fun _ _ _ _ => False) ?hI (fun _ _ _ _ _ _ _ _ h _ _ => h.elim) ?h0 ?round ?done ?stop
    case hI =>
      intro k T T' W W' hT hT' h hs _
      subst hT
      exact h.stab (fun b hb => hb) hs (by omega) rfl (by omega)
    case h0 => exact ⟨bI, bW, bRY, ⟨none, 0, [], rfl, bA, Kd.R_nil _ _ _ _ _⟩, hbY, by omega⟩
    case round =>
      rintro l n k T T1 W0 X0 vs hk hAT hAT1 hI hT1 hst ⟨xs, v2, hseg, rfl, hR⟩ hRb
      subst hAT hAT1
      obtain ⟨A2, c2, rfl⟩ := Kd.R_slice hR
      have hrk : rd_L1 L (k : Int) = xs := by
        unfold rd_L1; rw [Int.toNat_natCast, List.getD_eq_getElem?_getD, hseg]; rfl
      have hfl : (L.take (k + 1)).flatten = (L.take k).flatten ++ xs := by rw [List.take_add_one, hseg, List.flatten_append]; simp
      have hfx : ((L.take (k + 1)).flatten).length ≤ 600 := by have := flat_len L (k + 1); rw [HL.out.2.2] at this; omega
      have HK := Lib.hid (And.intro hk (And.intro hfl hfx))
      clear hseg hfl hfx
      gi_wp2
      refine ⟨Below.refl _ _, fun W2 hs => ?_⟩
      have hI2 := (hI.stab (fun b hb => hb) hst (by omega) rfl (by omega)).stab (T := fun _ => False) (fun b hb => hb.elim) hs (by omega) rfl (by omega)
      have R2 := R_stab hR hs (fun _ _ h => h)
      clear hI hst hR
      obtain ⟨b1, b2, b3, ⟨Aa, ca, ys, hys, b4, Ra⟩, hB5, hz⟩ := hI2
      obtain ⟨adw, Aw0, cw0, rfl, hcw, hcw0, Cw0⟩ := at_L1 (Kd.C_below HB.out.2.2.1 hB5) (k : Int) (by omega) (by omega)
      rw [Int.toNat_natCast] at hcw
      rw [hrk] at hcw hcw0 Cw0
      have hnl : (L.length ≤ k) = False := eq_false (by omega)
      have hil : (k < L.length) = True := eq_true hk
      have c1 := b1.cell
      have c2' := b2.cell
      have HS := Lib.hid (And.intro b1 (And.intro b2 (And.intro b3 (And.intro b4 (And.intro Ra (And.intro hB5 hz))))))
      have HS2 := Lib.hid (And.intro R2 (And.intro hcw0 (And.intro Cw0 (And.intro hrk hys))))
      clear b1 b2 b3 b4 Ra hB5 hz R2 hcw0 Cw0 hrk hys hs
      gi_wp2_with (fail)
      obtain ⟨Ax, cx, ex, hcx, Cx⟩ := Kd.R_reads HS2.out.1
      obtain ⟨rfl, -, rfl⟩ : A2 = Ax ∧ xs.length = xs.length ∧ c2 = cx := by simpa using ex
      have hxl : xs.length ≤ 600 := by have h1 := HK.out.2.2; rw [HK.out.2.1, List.length_append] at h1; omega
      have hyl : ys.length + xs.length ≤ 600 := by have h1 := HK.out.2.2; rw [HK.out.2.1, List.length_append, ← HS2.out.2.2.2.2] at h1; exact h1
      refine (CallsIn.inRound l (callsIn_wide.2 (cuneiformref01_Same.calls (xs.length + 1) A2 c2 xs Aw0 cw0 xs true W2 Cx hcx HS2.out.2.2.1 HS2.out.2.1 (same_self xs (by omega) _ (by omega))))).mono ?_
      rintro e W3 ⟨rfl, D3⟩
      have B3 := D3.below
      have s3 : Stab (fun _ => False) W2.heap.size W2 W3 := Stab.of_below B3
      have b1 := boxed_stab HS.out.1 s3 (fun h => h)
      have b2 := boxed_stab HS.out.2.1 s3 (fun h => h)
      have b3 := boxed_stab HS.out.2.2.1 s3 (fun h => h)
      have b4 := boxed_stab HS.out.2.2.2.1 s3 (fun h => h)
      have Ra := R_stab HS.out.2.2.2.2.1 s3 (fun _ _ h => h)
      have Cx3 := Kd.C_below Cx B3
      have hB5 : Below x2.heap.size x2 W3 := HS.out.2.2.2.2.2.1.trans (B3.mono HS.out.2.2.2.2.2.1.size)
      have hz : x2.heap.size + 5 ≤ W3.heap.size := Nat.le_trans HS.out.2.2.2.2.2.2 B3.size
      obtain ⟨v5, w5, hrun, R5, g5, at5⟩ := run_app_row (P := Try.prog) (t := 22) (e := 5) (ty := 22) (c := c2) .u8 Try.underlying22 infoB (by decide) Ra Cx3 (fun _ _ => trivial) hz (by omega)
      obtain ⟨A5, c5, ev5⟩ := Kd.R_slice R5
      have e5 : (ys ++ xs).length = ys.length + xs.length := List.length_append
      rw [e5] at ev5
      subst ev5
      have hbase : ∀ q, (Value.slice Aa ys.length ca).ownBlock = some q → x2.heap.size + 5 ≤ q := fun q e => Kd.R_base Ra q e
      have b1' := boxed_app b1 g5 (fun q e => by have := hbase q e; omega)
      have b2' := boxed_app b2 g5 (fun q e => by have := hbase q e; omega)
      have b3' := boxed_app b3 g5 (fun q e => by have := hbase q e; omega)
      have b4' := boxed_app b4 g5 (fun q e => by have := hbase q e; omega)
      have k1 : Keep (fun b => (b < w.heap.size ∨ b = x2.heap.size + 4) ∨ b = x2.heap.size + 3) W3 w5 := Keep.grown g5 (fun q e => by have := hbase q e; omega)
      have o1 : Books W3 w5 := books_row g5 (Kd.R_typed Ra)
      have q1 : Below x2.heap.size x2 w5 := below_app hB5 g5 hB5.size (fun q e => by have := hbase q e; omega)
      have hz5 : x2.heap.size + 5 ≤ w5.heap.size := Nat.le_trans hz k1.size
      obtain ⟨w6, hw6⟩ : ∃ w6, w5.setCell ⟨x2.heap.size + 1, 0, none⟩ (.slice A5 (ys.length + xs.length) c5) = w6 := ⟨_, rfl⟩
      have b4s : Boxed w6 (x2.heap.size + 1) 22 (.slice A5 (ys.length + xs.length) c5) := by rw [← hw6]; exact b4'.set _
      have b1s : Boxed w6 (x2.heap.size + 2) 3 (.int .i64 (k : Int)) := by rw [← hw6]; exact b1'.kept (grownBy_setCell' w5 (x2.heap.size + 1) _) (by simp)
      have b2s : Boxed w6 x2.heap.size 23 (.slice (some adw) L.length cw) := by rw [← hw6]; exact b2'.kept (grownBy_setCell' w5 (x2.heap.size + 1) _) (by simp)
      have b3s : Boxed w6 w.heap.size 4 (.bool false) := by rw [← hw6]; exact b3'.kept (grownBy_setCell' w5 (x2.heap.size + 1) _) (by simp; omega)
      have R6 : (Kd.int .u8).R 5 w6 (x2.heap.size + 5) (fun _ => True) (.slice A5 (ys.length + xs.length) c5) (ys ++ xs) := by rw [← hw6]; exact Kd.R_set R5 b4' (by decide) _ _
      have k2 : Keep (fun b => (b < w.heap.size ∨ b = x2.heap.size + 4) ∨ b = x2.heap.size + 3) w5 w6 := by rw [← hw6]; exact Keep.setCell _ (by simp; omega) _
      have o2 : Books w5 w6 := by rw [← hw6]; exact Books.setCell _ _ _
      have q2 : Below x2.heap.size x2 w6 := by rw [← hw6]; exact q1.setCell (p := ⟨x2.heap.size + 1, 0, none⟩) (by simp) _
      have R7 := Kd.R_set R6 b1s (by decide) 0 (.int .i64 ((k : Int) + 1))
      have q7 := q2.setCell (p := ⟨x2.heap.size + 2, 0, none⟩) (by simp) (.int .i64 ((k : Int) + 1))
      have k3 : Keep (fun b => (b < w.heap.size ∨ b = x2.heap.size + 4) ∨ b = x2.heap.size + 3) w6 (w6.setCell ⟨x2.heap.size + 2, 0, none⟩ (.int .i64 ((k : Int) + 1))) := Keep.setCell _ (by simp; omega) _
      have hz6 : x2.heap.size + 5 ≤ w6.heap.size := Nat.le_trans hz5 k2.size
      have hfin : rfPost (fun b => (b < w.heap.size ∨ b = x2.heap.size + 4) ∨ b = x2.heap.size + 3) (ChI x2.heap.size w.heap.size (.slice (some adw) L.length cw) x2 L (k + 1)) (fun _ _ => False) W2 .normal { tmps := #[], defers := [] } (w6.setCell ⟨x2.heap.size + 2, 0, none⟩ (.int .i64 ((k : Int) + 1))) :=
        ⟨(((Keep.of_below B3).trans k1).trans k2).trans k3, (((Books.of_below B3).trans o1).trans o2).trans (Books.setCell _ _ _), by rw [show ((k + 1 : Nat) : Int) = (k : Int) + 1 from rfl]; exact b1s.set _, b2s.kept (grownBy_setCell' w6 (x2.heap.size + 2) _) (by simp), b3s.kept (grownBy_setCell' w6 (x2.heap.size + 2) _) (by simp; omega), ⟨A5, c5, ys ++ xs, by rw [HK.out.2.1, HS2.out.2.2.2.2], by rw [e5]; exact b4s.kept (grownBy_setCell' w6 (x2.heap.size + 2) _) (by simp), by rw [e5]; exact R7⟩, q7, by simp [World.setCell]; exact hz6⟩
      have HFIN := Lib.hid hfin
      have c4 := b4.cell
      have f4 := b4'.frozen
      have c4' := b4'.cell
      have c1s : (w5.setCell ⟨x2.heap.size + 1, 0, none⟩ (.slice A5 (ys.length + xs.length) c5)).cell? ⟨x2.heap.size + 2, 0, none⟩ = some (.int .i64 (k : Int)) := by rw [hw6]; exact b1s.cell
      have f1s : (w5.setCell ⟨x2.heap.size + 1, 0, none⟩ (.slice A5 (ys.length + xs.length) c5)).frozen? ⟨x2.heap.size + 2, 0, none⟩ = false := by rw [hw6]; exact b1s.frozen
      have HW6 := Lib.hid hw6
      clear hw6
      have hLl := HL.out.2.1
      have hk1 : wrap64 ((k : Int) + 1) = (k : Int) + 1 := w64' (by omega) (by omega)
      clear hLl
      clear c1 c2' b1 b2 b3 b4 Ra Cx3 hB5 hz R5 g5 at5 b1' b2' b3' b4' k1 o1 q1 hz5 b4s b1s b2s b3s R6 k2 o2 q2 R7 q7 k3 hz6 hfin hbase B3 s3 D3 Cx hcx ex hcw e5
      gi_wp2_with (gi_at_builtin; refine runIn_app _ _ _ (by kernel_rfl) rfl hrun ?_)
      rw [HW6.out]
      exact HFIN.out
    case done =>
      rintro D T V ⟨h1, h2, h3, ⟨Aa, ca, ys, hys, h4, h5⟩, h6, h7⟩ _ hD hd
      rw [List.take_length, HL.out.2.2] at hys
      subst hys
      have c1 := h1.cell
      have c2 := h2.cell
      have c3 := h4.cell
      have hBV : Below w.heap.size w V := HB.out.1.trans (h6.mono HB.out.1.size)
      have hLV := Lib.hid (show LastS w V w.heap.size 4 [D] V from ⟨⟨false, h3⟩, Nb.refl V, hBV, fun E hE => by rw [List.mem_singleton.1 hE]; exact hd⟩)
      obtain ⟨Ax, cx, ex, hcx, Cx⟩ := Kd.R_reads h5
      obtain ⟨rfl, -, rfl⟩ : Aa = Ax ∧ ys.length = ys.length ∧ ca = cx := by simpa using ex
      obtain ⟨kk, hkk⟩ := known_true
      have K8 : ∀ X, Calls Try.prog 8 #[] X fun e w' => e = .returned (.bool true) ∧ Below X.heap.size X w' := fun X => cuneiformlaw06_known.calls kk true X hkk
      have K9 : ∀ X, Below V.heap.size V X → Calls Try.prog 9 #[.slice Aa ys.length ca, .slice a0 ys.length cap0] X fun e w' => e = .returned (.bool true) ∧ Below X.heap.size X w' := fun X hX =>
        (cuneiformref01_Same.calls (ys.length + 1) Aa ca ys a0 cap0 ys true X (Kd.C_below Cx hX) hcx (Kd.C_below (Kd.C_below D0 hBV) hX) hca (same_self ys (by omega) _ (by omega))).mono fun e w' h => ⟨h.1, h.2.below⟩
      have HD := Lib.hid hD
      clear h1 h2 h3 h4 h5 h6 h7 hd hBV hkk ex Cx
      go_wp2_with (fail)
      refine (K8 _).mono ?_
      rintro e V1 ⟨rfl, hb⟩
      have c1' := pw_cell_below hb c1
      have c2' := pw_cell_below hb c2
      have c3' := pw_cell_below hb c3
      have HV1 := Lib.hid hb
      clear c1 c2 c3 hb
      go_wp2_with (fail)
      refine (K9 _ HV1.out).mono ?_
      rintro e V3 ⟨rfl, hb3⟩
      have L1 := (hLV.out.below HV1.out).below hb3
      have fB := L1.frozen
      have hcB := L1.cell
      have hF := L1.store (Nat.le_refl _) true
      have HF := Lib.hid (And.intro hF hF.told)
      clear K8 K9 L1 hF c1' c2' c3' hb3
      go_wp2_with (fail)
      generalize V3.setCell ⟨w.heap.size, 0, none⟩ (.bool true) = V2 at *
      have hct := HF.out.2
      have HF := Lib.hid HF.out.1
      have hq1 : V2.heap[D]? = some (.deferred (some [])) := HF.out.2.2.2 D (by simp)
      have st1 : Stab (fun _ => False) w.heap.size V2 (V2.putObj D (.deferred none)) := stab_shut hq1 (by have := HD.out; omega)
      have hcb := st1.cell hct (fun h => h)
      refine marks_ret (v := .bool true) (by simp [results, Try.results6, Act.put, go_sem, hcb]) (by simp [Act.put]) hq1 ⟨rfl, ?_⟩
      exact st1.below HF.out.2.2.1 (Nat.le_refl _) HF.out.2.2.1.size (fun _ _ h => h)
    case stop =>
      rintro D c k T W _ h
      exact h.elim)
end Go.Proofs.Ytnflobldekhjbaa.P
