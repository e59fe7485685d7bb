/- The segments of any bytes, where they are, and what is open: FenceSplits answers true for all inputs. -/
import Derived.Test.YtnflobldekhjbaaLaws
import Derived.Test.YtnflobldekhjbaaCnt
import Derived.Test.YtnflobldekhjbaaPlain2
import Derived.RegionTactic
import Derived.Test.YtnflobldekhjbaaLast
import Derived.Deep.RegionHeld3
set_option linter.unusedVariables false
set_option linter.unusedSimpArgs false
namespace Go.Proofs.Ytnflobldekhjbaa.P
open Go.RowKit Go.Proofs.YtnflobldekhjbaaW.PrintWords Go.Proofs.YtnflobldekhjbaaW.PrintMore Go.Proofs.Ytnflobldekhjbaa.Ext Go.Proofs.Ytnflobldekhjbaa
attribute [local go_sem] max2_int min2_int max_two min_two max_three min_three max_four min_four
attribute [local go_sem] Oper.semAt_some
attribute [local simp, local go_sem] wide_fn_eq' wide_depth_eq'

theorem lastOf {a b c d e f : Prop} (h : a ∧ b ∧ c ∧ d ∧ e ∧ f) : f := h.2.2.2.2.2
theorem eql_nil (f : Fn) (fi ca : Array Value) (w : World) : (binOp .eql 33 (.func f fi ca) .nilFunc).run Try.prog w = .ok (.bool false) w := by
  kernel_rfl
attribute [local go_sem] eql_nil

/-- fence.Split, in plain words. -/
theorem split_f' {l : List Int} (h : l.length ≤ 1000000) : fence_Split.f l = some ((segs l).map (·.2), opn [] l) := if_pos h

/-- A loop that ends, or breaks: on it goes from either alike. -/
theorem wp_range_fin {P : Program} {g : Operand} {ps : Array Tmp} {assign body : Code} {Q : Exit → Act → World → Prop} {id : Nat} {a : Act} {w : World}
    {gf : Nat} {lb : Array Value} (hg : a.eval g = .func (.func gf) #[] lb) (eg : ∀ args w, (callFunc gf args).run P w = .ok (.enter gf args) w)
    {N : Nat} {R : Nat → Prop} {Qv : Nat → Array Value → (Nat → Prop) → Nat → World → Prop} (hit : Iter P gf lb N NoT R (fun _ => False) Qv (fun _ _ _ _ => True) w)
    (hR : ∀ b, R b → b < w.heap.size) (hps : ∀ k vs T B W, Qv k vs T B W → vs.size = ps.size)
    (I : Nat → World → Prop) (F : World → Prop)
    (hI : ∀ k W W', I k W → Stab (fun _ => False) w.heap.size W W' → I k W')
    (hF : ∀ W W', F W → Stab (fun _ => False) w.heap.size W W' → F W')
    (h0 : I 0 w) (hN : ∀ W, I N W → F W)
    (hround : ∀ (l n : Nat) (k : Nat) (T : Nat → Prop) (W0 X : World) (vs : Array Value), k < N → I k W0 → Stab (fun _ => False) w.heap.size W0 X → Qv k vs T W0.heap.size X → (∀ b, R b → b < X.heap.size) →
      assign.wpIn (Fence.wide.inRound l) n P (Exit.then (fun a₁ Xa => Below X.heap.size X Xa ∧ ∀ W2, Stab (fun _ => False) w.heap.size Xa W2 →
        body.wpIn (Fence.wide.inRound l) n P (rfPost R (I (k + 1)) (fun c W' => c = .exit id ∧ F W') W2) a₁ W2) (fun _ _ _ => False)) { tmps := (ps.zip vs).foldl (fun t (p, v) => t.setIfInBounds p v) a.tmps, defers := [] } X)
    (hfin : ∀ (D : Nat) (W : World), F W → w.heap.size ≤ D → W.heap[D]? = some (.deferred (some [])) → Q .normal { a with defers := { target := .collected D, args := #[] } :: a.defers } W) :
    (Code.rangeFunc g ps assign body).wp P (Exit.inBlock id Q) a w := by
  refine wp_range0 hg eg hit hR hps I (fun c _ W' => c = .exit id ∧ F W') hI (fun c k W W' h hs => ⟨h.1, hF W W' h.2 hs⟩) h0 hround
    (fun D W h hD hd => hfin D W (hN W h) hD hd) ?_
  rintro D c k W hk ⟨rfl, h⟩ hD hd
  have := hfin D W h hD hd
  refine wp_exit ?_
  simpa [Exit.inBlock] using this

/-- A function that holds two such loops returns. -/
theorem marks_ret2 {n : Nat} {P : Program} {fn : Func} {R : Ending → World → Prop} {a : Act} {w : World} {D1 D2 : Nat} {v : Value} (hres : (results fn a.tmps).run P ((w.putObj D2 (.deferred none)).putObj D1 (.deferred none)) = .ok v ((w.putObj D2 (.deferred none)).putObj D1 (.deferred none)))
    (hd : a.defers = [{ target := .collected D2, args := #[] }, { target := .collected D1, args := #[] }]) (hD2 : w.heap[D2]? = some (.deferred (some []))) (hD1 : w.heap[D1]? = some (.deferred (some []))) (hne : D1 ≠ D2)
    (h : R (.returned v) ((w.putObj D2 (.deferred none)).putObj D1 (.deferred none))) : bodyPostM Fence.wide n P fn R .ret a w := by
  show LeavesInM Fence.wide n P fn a.tmps R a.defers .returning w
  rw [hd]
  exact ⟨by simp, .inl ⟨_, _, rfl, run_takeDeferred hD2, ⟨by simp, .inl ⟨_, _, rfl, run_takeDeferred ((World.putObj_heap_other hne).trans hD1), ⟨v, hres, h⟩⟩⟩⟩⟩

/-- Between two rounds of the first loop: how many there were; the boxes stand. -/
def SplitsI (m s : Nat) (a1 : Int) (vw vp : Value) (x2 : World) (k : Nat) (W : World) : Prop :=
  Boxed W (m + 2) 3 (.int .i64 (k : Int)) ∧ Boxed W s 3 (.int .i64 a1) ∧ Boxed W m 23 vw ∧ Boxed W (m + 1) 29 vp ∧ Below x2.heap.size x2 W ∧ m + 4 ≤ W.heap.size

/-- Between two rounds of the second loop: n of them are over; the boxes stand, and the first loop's record. -/
def SplitsJ (m s K D : Nat) (a1 i : Int) (vw : Value) (x2 : World) (n : Int) (W : World) : Prop :=
  Boxed W K 3 (.int .i64 n) ∧ Boxed W s 3 (.int .i64 a1) ∧ Boxed W m 23 vw ∧ Boxed W (m + 2) 3 (.int .i64 i) ∧ Below x2.heap.size x2 W ∧ K + 2 ≤ W.heap.size ∧ W.heap[D]? = some (.deferred (some []))
def SplitsF (m s K D : Nat) (a1 i : Int) (vw : Value) (x2 : World) (W : World) : Prop := SplitsJ m s K D a1 i vw x2 (if 0 ≤ a1 ∧ a1 < i then a1 + 1 else i) W
theorem SplitsJ.stab {m s K D n0 : Nat} {a1 i n : Int} {vw : Value} {x2 W W' : World} (h : SplitsJ m s K D a1 i vw x2 n W) (hs : Stab (fun _ => False) n0 W W') (hD : D < n0) (hx : x2.heap.size ≤ n0) : SplitsJ m s K D a1 i vw x2 n W' := by
  obtain ⟨h1, h2, h3, h4, h5, h6, h7⟩ := h
  exact ⟨boxed_stab h1 hs (fun h => h), boxed_stab h2 hs (fun h => h), boxed_stab h3 hs (fun h => h), boxed_stab h4 hs (fun h => h), hs.below h5 hx h5.size (fun _ _ h => h), Nat.le_trans h6 hs.size, hs.same D _ h7 (fun h => h) (.inr hD)⟩

set_option maxRecDepth 100000 in
set_option maxHeartbeats 4000000 in
theorem cuneiformlaw06_FenceSplits.walk (a0 : Option Addr) (len0 cap0 : Nat) (z0 : List Int) (a1 : Int) (w : World) (w0 : (a0 = none ∧ len0 = 0 ∧ cap0 = 0 ∧ z0 = []) ∨ ∃ x, a0 = some x ∧ len0 ≤ cap0 ∧ cap0 ≤ maxLen ∧ z0.length = cap0 ∧ (∀ i, i < z0.length → w.cell? (x.add i) = some (.int .u8 (z0.getD i 0))) ∧ ∀ n ∈ z0, (Lit.int .u8 n).wf = true) (y0 : len0 * 1 ≤ 140737488351232) (w1 : (Lit.int .i64 a1).wf = true) :
    Calls Try.prog 4 #[.slice a0 len0 cap0, .int .i64 a1] w fun e w' => e = .returned (.bool true) ∧ Below w.heap.size w w' := by
  obtain ⟨l0, rfl, hr0, hm0, hw0, hc0⟩ := ReadsInt.ofRowC w0
  have C0 : (Kd.int .u8).C w a0 l0.length l0 := Kd.C_of_reads (d := (0 : Int)) (h1 := fun _ => rfl) hr0
  have e0 : (if (600 : Int) < (l0.length : Int) then (600 : Int) else (l0.length : Int)).toNat = (l0.take 600).length := by rw [List.length_take]; split <;> omega
  have D0 : (Kd.int .u8).C w a0 (l0.take 600).length (l0.take 600) := by
    rcases Nat.le_total l0.length 600 with h | h
    · rw [List.take_of_length_le h]; exact C0
    · have := C_take (m := 600) (C0) h; rwa [List.length_take, Nat.min_eq_left h]
  have hm : (if (600 : Int) < (l0.length : Int) then (600 : Int) else (l0.length : Int)) = ((l0.take 600).length : Int) := by rw [List.length_take]; split <;> omega
  have hla : (l0.take 600).length ≤ 600 := by simp; omega
  have hca : (l0.take 600).length ≤ cap0 := by simp; omega
  have hcl : ((l0.take 600).length ≤ l0.length) = True := eq_true (by simp; omega)
  have hcc : ((l0.take 600).length ≤ cap0) = True := eq_true hca
  generalize l0.take 600 = la at *
  clear w0 w1 hr0 hw0 hm0 e0 C0
  refine (callsIn_wide (n := 5)).1 (callsIn_of_wp_marks Try.func4 rfl trivial ?_ rfl)
  simp only [Try.ntmps4, List.size_toArray, List.length_cons, List.length_nil, Nat.reduceAdd, Nat.reduceSub, Array.replicate_succ, Array.replicate_zero, List.push_toArray, List.append_toArray, List.nil_append, List.cons_append]
  refine wpIn_wide.2 ?_
  go_wp2_with (fail)
  clear hm hcl hcc hc0 y0
  have bX : Below w.heap.size w ((w.alloc (.cells #[.int .i64 a1] 3)).alloc (.cells #[.bool false] 4)) := ((Below.refl _ w).alloc (Nat.le_refl _) _).alloc (by simp) _
  obtain ⟨X, hX⟩ : ∃ X, ((w.alloc (.cells #[.int .i64 a1] 3)).alloc (.cells #[.bool false] 4)) = X := ⟨_, rfl⟩
  have hsX : X.heap.size = w.heap.size + 2 := by rw [← hX]; simp
  have bS : Boxed X w.heap.size 3 (.int .i64 a1) := by rw [← hX]; exact (Boxed.new w 3 (.int .i64 a1)).alloc _
  have bR : Boxed X (w.heap.size + 1) 4 (.bool false) := by rw [← hX]; have := Boxed.new (w.alloc (.cells #[.int .i64 a1] 3)) 4 (.bool false); rwa [World.size_alloc] at this
  rw [hX] at bX ⊢
  clear hX
  have D1 := Kd.C_below D0 bX
  have hf1 : fence_Split.f la = some ((segs la).map (·.2), opn [] la) := split_f' (by omega)
  have hf2 := rsplit_f la (by omega)
  have hsg : (segs la).length ≤ 600 := Nat.le_trans (sgo_len _ _ _) hla
  have hop : (opn [] la).length ≤ 600 := Nat.le_trans (opn_len la []) (by simpa using hla)
  have hl1 : ((segs la).map (·.2)).length = (segs la).length := by simp
  have hl2 : ((segs la).map (fun p => (p.1 : Int))).length = (segs la).length := by simp
  generalize hrx : (segs la).map (·.2) = rx at *
  generalize hps : (segs la).map (fun p => (p.1 : Int)) = ps at *
  generalize hrl : opn [] la = rl at *
  have HRX := Lib.hid hrx
  have HPS := Lib.hid hps
  have HL := Lib.hid (And.intro hl1 hl2)
  clear hrx hps hrl hl1 hl2
  refine (fence_Split.calls a0 cap0 la rx rl X D1 hca hf1).mono ?_
  rintro e x1 ⟨v0, v1, rfl, S1, R1, B1⟩
  obtain ⟨Al, cl, rfl, hcl, Cl⟩ := Kd.S_reads S1
  obtain ⟨Ao, co, rfl, hco, Co⟩ := Kd.R_reads R1
  have HB1 := Lib.hid (And.intro B1 (And.intro Cl Co))
  clear S1 R1 Cl Co hf1 B1
  go_wp2_with (fail)
  refine (cuneiformref06_Split.calls (la.length + 1) a0 cap0 la rx ps rl x1 (Kd.C_below D1 HB1.out.1) hca hf2).mono ?_
  rintro e x2 ⟨v0, v1, v2, rfl, S2, P2, R2, B2⟩
  obtain ⟨Aw, cw, rfl, hcw, Cw⟩ := Kd.S_reads S2
  obtain ⟨Ap, cp, rfl, hcp, Cp⟩ := Kd.R_reads P2
  obtain ⟨Af, cf, rfl, hcf, Cf⟩ := Kd.R_reads R2
  have HB2 := Lib.hid (And.intro (HB1.out.1.trans (B2.mono HB1.out.1.size)) (And.intro (Kd.C_below HB1.out.2.1 B2) (And.intro (Kd.C_below HB1.out.2.2 B2) (And.intro Cw (And.intro Cp Cf)))))
  have HA1 := Lib.hid (And.intro hca (And.intro hcl (And.intro hco (And.intro hcw (And.intro hcp hcf)))))
  clear S2 P2 R2 Cw Cp Cf hf2 B2 HB1 hca hcl hco hcw hcp hcf
  go_wp2_with (go_at_call 12; refine (segments_call _ _ _ _ rfl _).mono ?_; rintro e w' ⟨rfl, rfl⟩)
  have hxs : w.heap.size + 2 ≤ x2.heap.size := by have := HB2.out.1.size; omega
  have hbY : Below x2.heap.size x2 ((((x2.alloc (.cells #[.slice Aw rx.length cw] 23)).alloc (.cells #[.slice Ap ps.length cp] 29)).alloc (.cells #[.int .i64 0] 3)).alloc (.cells #[.slice a0 la.length cap0] 22)) := ((((Below.refl _ x2).alloc (Nat.le_refl _) _).alloc (by simp) _).alloc (by simp; omega) _).alloc (by simp; omega) _
  obtain ⟨Y, hY⟩ : ∃ Y, ((((x2.alloc (.cells #[.slice Aw rx.length cw] 23)).alloc (.cells #[.slice Ap ps.length cp] 29)).alloc (.cells #[.int .i64 0] 3)).alloc (.cells #[.slice a0 la.length cap0] 22)) = Y := ⟨_, rfl⟩
  have hsY : Y.heap.size = x2.heap.size + 4 := by rw [← hY]; simp
  have bW : Boxed Y x2.heap.size 23 (.slice Aw rx.length cw) := by rw [← hY]; exact (((Boxed.new x2 23 _).alloc _).alloc _).alloc _
  have bP : Boxed Y (x2.heap.size + 1) 29 (.slice Ap ps.length cp) := by rw [← hY]; have := ((Boxed.new (x2.alloc (.cells #[.slice Aw rx.length cw] 23)) 29 (.slice Ap ps.length cp)).alloc (.cells #[.int .i64 0] 3)).alloc (.cells #[.slice a0 la.length cap0] 22); rwa [World.size_alloc] at this
  have bI : Boxed Y (x2.heap.size + 2) 3 (.int .i64 0) := by rw [← hY]; have := (Boxed.new ((x2.alloc (.cells #[.slice Aw rx.length cw] 23)).alloc (.cells #[.slice Ap ps.length cp] 29)) 3 (.int .i64 0)).alloc (.cells #[.slice a0 la.length cap0] 22); rwa [World.size_alloc, World.size_alloc] at this
  have bB : Boxed Y (x2.heap.size + 3) 22 (.slice a0 la.length cap0) := by rw [← hY]; have := Boxed.new (((x2.alloc (.cells #[.slice Aw rx.length cw] 23)).alloc (.cells #[.slice Ap ps.length cp] 29)).alloc (.cells #[.int .i64 0] 3)) 22 (.slice a0 la.length cap0); rwa [World.size_alloc, World.size_alloc, World.size_alloc] at this
  rw [hY] at hbY ⊢
  have bSx : Boxed x2 w.heap.size 3 (.int .i64 a1) := (HB2.out.1.block w.heap.size (by omega)).trans bS
  have bSY : Boxed Y w.heap.size 3 (.int .i64 a1) := (hbY.block w.heap.size (by omega)).trans bSx
  have bRx : Boxed x2 (w.heap.size + 1) 4 (.bool false) := (HB2.out.1.block (w.heap.size + 1) (by omega)).trans bR
  have HRx := Lib.hid bRx
  clear hY bS bR bRx D1 hsX
  have hbwY : Below w.heap.size w Y := bX.trans ((HB2.out.1.trans (hbY.mono HB2.out.1.size)).mono bX.size)
  have HBX := Lib.hid bX
  clear bX
  refine wp_range0 (gf := 17) (lb := #[.pointer (some ⟨x2.heap.size + 3, 0, none⟩)]) rfl (enters_of Try.func17 (by kernel_rfl) rfl)
    (segments1 w Y (x2.heap.size + 3) a0 cap0 la bB.cell HA1.out.1 D0 (by omega) hbwY) (fun b hb => by rcases hb with hb | hb <;> omega) (fun k vs T B W h => by obtain ⟨_, _, _, _, _, rfl, _⟩ := h; rfl)
    (SplitsI x2.heap.size w.heap.size a1 (.slice Aw rx.length cw) (.slice Ap ps.length cp) x2) (fun _ _ _ => False) ?hI (fun _ _ _ _ h _ => h) ?h0 ?round ?done ?stop
  case hI =>
    rintro k W W' ⟨h1, h2, h3, h4, h5, h6⟩ hs
    exact ⟨boxed_stab h1 hs (fun h => h), boxed_stab h2 hs (fun h => h), boxed_stab h3 hs (fun h => h), boxed_stab h4 hs (fun h => h), hs.below h5 (by omega) h5.size (fun _ _ h => h), Nat.le_trans h6 hs.size⟩
  case h0 => exact ⟨bI, bSY, bW, bP, hbY, by omega⟩
  case round =>
    rintro l n k T W0 X0 vs hk ⟨h1, h2, h3, h4, h5, h6⟩ hst ⟨at_, xs, v2, hseg, hat, rfl, hR⟩ hRb
    obtain ⟨A2, c2, rfl⟩ := Kd.R_slice hR
    have hkr : k < rx.length := by have := HL.out.1; omega
    have hkp : k < ps.length := by have := HL.out.2; omega
    have hrk : rd_L1 rx (k : Int) = xs := by
      unfold rd_L1; rw [← HRX.out, Int.toNat_natCast, List.getD_eq_getElem?_getD, List.getElem?_map, hseg]; rfl
    have hpk : rd ps (k : Int) = (at_ : Int) := by
      unfold rd; rw [← HPS.out, Int.toNat_natCast, List.getD_eq_getElem?_getD, List.getElem?_map, hseg]; rfl
    have HSEG := Lib.hid hseg
    have HK := Lib.hid (And.intro hk (And.intro hkr hkp))
    clear hseg hk
    gi_wp2
    refine ⟨Below.refl _ _, fun W2 hs => ?_⟩
    have hs02 := hst.trans hs (fun b h => h.elim)
    have b1 := boxed_stab h1 hs02 (fun h => h)
    have b2 := boxed_stab h2 hs02 (fun h => h)
    have b3 := boxed_stab h3 hs02 (fun h => h)
    have b4 := boxed_stab h4 hs02 (fun h => h)
    have hB5 : Below x2.heap.size x2 W2 := hs02.below h5 (by omega) h5.size (fun _ _ h => h)
    have hz : x2.heap.size + 4 ≤ W2.heap.size := Nat.le_trans h6 hs02.size
    have R2 := R_stab hR hs (fun _ _ h => h)
    obtain ⟨adp, rfl, hcp⟩ := Kd.at_int (Kd.C_below HB2.out.2.2.2.2.1 hB5) (k : Int) (by omega) (by omega)
    obtain ⟨adw, Aw0, cw0, rfl, hcw, hcw0, Cw0⟩ := at_L1 (Kd.C_below HB2.out.2.2.2.1 hB5) (k : Int) (by omega) (by omega)
    rw [Int.toNat_natCast] at hcw hcp
    rw [hrk] at hcw hcw0 Cw0
    rw [hpk] at hcp
    have hnl : (rx.length ≤ k) = False := eq_false (by omega)
    have hil : (k < rx.length) = True := eq_true hkr
    have hip : (k < ps.length) = True := eq_true hkp
    have c1 := b1.cell
    have c3 := b3.cell
    have c4 := b4.cell
    have f1 := b1.frozen
    have HS := Lib.hid (And.intro hB5 (And.intro hz (And.intro R2 (And.intro hcw0 (And.intro Cw0 (And.intro hrk hpk))))))
    clear h1 h2 h3 h4 h5 h6 hs02 hB5 hz R2 hR hst hs hcw0 Cw0 hrk hpk
    gi_wp2_with (fail)
    obtain ⟨Ax, cx, ex, hcx, Cx⟩ := Kd.R_reads HS.out.2.2.1
    obtain ⟨rfl, -, rfl⟩ : A2 = Ax ∧ xs.length = xs.length ∧ c2 = cx := by simpa using ex
    have hxl : xs.length ≤ 600 := by have := sgo_mem _ _ _ (at_, xs) (List.mem_of_getElem? HSEG.out); simp at this; omega
    refine (CallsIn.inRound l (callsIn_wide.2 (cuneiformref01_Same.calls (xs.length + 1) A2 c2 xs Aw0 cw0 xs true W2 Cx hcx HS.out.2.2.2.2.1 HS.out.2.2.2.1 (same_self xs (by omega) _ (by omega))))).mono ?_
    rintro e W3 ⟨rfl, D3⟩
    have B3 := D3.below
    have s3 : Stab (fun _ => False) W2.heap.size W2 W3 := Stab.of_below B3
    have b1' := boxed_stab b1 s3 (fun h => h)
    have b2' := boxed_stab b2 s3 (fun h => h)
    have b3' := boxed_stab b3 s3 (fun h => h)
    have b4' := boxed_stab b4 s3 (fun h => h)
    have c1' := b1'.cell
    have f1' := b1'.frozen
    have HS3 := Lib.hid (And.intro B3 (And.intro (HS.out.1.trans (B3.mono HS.out.1.size)) (Nat.le_trans HS.out.2.1 B3.size)))
    have e : wrap64 ((k : Int) + 1) = ((k + 1 : Nat) : Int) := by have := HK.out; unfold wrap64; omega
    have HE := Lib.hid e
    clear B3 s3 b1 b2 b3 b4 c1 c3 c4 f1 ex hcx Cx D3 e hcp hcw
    gi_wp2_with (fail)
    rw [HE.out]
    exact ⟨(Keep.of_below HS3.out.1).trans (Keep.setCell _ (by have := HBX.out.size; simp; omega) _), (Books.of_below HS3.out.1).trans (Books.setCell _ _ _), b1'.set _, b2'.kept (grownBy_setCell' W3 (x2.heap.size + 2) _) (by simp; omega), b3'.kept (grownBy_setCell' W3 (x2.heap.size + 2) _) (by simp), b4'.kept (grownBy_setCell' W3 (x2.heap.size + 2) _) (by simp), HS3.out.2.1.setCell (p := ⟨x2.heap.size + 2, 0, none⟩) (by simp) _, by have := HS3.out.2.2; simp [World.setCell]; omega⟩
  case done =>
    rintro D W ⟨h1, h2, h3, h4, h5, h6⟩ hD hd
    have HD := Lib.hid hd
    have c1 := h1.cell
    clear hd
    go_wp2_with (go_at_call 12; refine (segments_call _ _ _ _ rfl _).mono ?_; rintro e w' ⟨rfl, rfl⟩)
    have hD1 : D < W.heap.size := (Array.getElem?_eq_some_iff.1 HD.out).1
    have hbZ : Below W.heap.size W ((W.alloc (.cells #[.int .i64 0] 3)).alloc (.cells #[.slice a0 la.length cap0] 22)) := ((Below.refl _ W).alloc (Nat.le_refl _) _).alloc (by simp) _
    obtain ⟨Z, hZ⟩ : ∃ Z, ((W.alloc (.cells #[.int .i64 0] 3)).alloc (.cells #[.slice a0 la.length cap0] 22)) = Z := ⟨_, rfl⟩
    have hsZ : Z.heap.size = W.heap.size + 2 := by rw [← hZ]; simp
    have bK : Boxed Z W.heap.size 3 (.int .i64 0) := by rw [← hZ]; exact (Boxed.new W 3 _).alloc _
    have bB2 : Boxed Z (W.heap.size + 1) 22 (.slice a0 la.length cap0) := by rw [← hZ]; have := Boxed.new (W.alloc (.cells #[.int .i64 0] 3)) 22 (.slice a0 la.length cap0); rwa [World.size_alloc] at this
    rw [hZ] at hbZ ⊢
    clear hZ
    have hj : SplitsJ x2.heap.size w.heap.size W.heap.size D a1 ((segs la).length : Int) (.slice Aw rx.length cw) x2 0 Z :=
      ⟨bK, (hbZ.block _ h2.lt).trans h2, (hbZ.block _ h3.lt).trans h3, (hbZ.block _ h1.lt).trans h1, h5.trans (hbZ.mono h5.size), by omega, (hbZ.block _ hD1).trans HD.out⟩
    have hbwZ : Below w.heap.size w Z := HBX.out.trans ((HB2.out.1.trans (hj.2.2.2.2.1.mono HB2.out.1.size)).mono HBX.out.size)
    refine wp_range_fin (gf := 17) (lb := #[.pointer (some ⟨W.heap.size + 1, 0, none⟩)]) rfl (enters_of Try.func17 (by kernel_rfl) rfl)
      (segments1 w Z (W.heap.size + 1) a0 cap0 la bB2.cell HA1.out.1 D0 (by omega) hbwZ) (fun b hb => by rcases hb with hb | hb <;> omega) (fun k vs T B W h => by obtain ⟨_, _, _, _, _, rfl, _⟩ := h; rfl)
      (fun k V => (a1 < 0 ∨ (k : Int) ≤ a1) ∧ SplitsJ x2.heap.size w.heap.size W.heap.size D a1 ((segs la).length : Int) (.slice Aw rx.length cw) x2 (k : Int) V)
      (SplitsF x2.heap.size w.heap.size W.heap.size D a1 ((segs la).length : Int) (.slice Aw rx.length cw) x2)
      (fun k V V' h hs => ⟨h.1, h.2.stab hs (by omega) (by omega)⟩) (fun V V' h hs => SplitsJ.stab h hs (by omega) (by omega)) ⟨by omega, hj⟩ ?hN ?round2 ?hfin
    case hN =>
      rintro V ⟨h, hv⟩
      unfold SplitsF
      rw [if_neg (by omega)]
      exact hv
    case round2 =>
      rintro l n k T W0 X0 vs hk ⟨ha, h1, h2, h3, h4, h5, h6, h7⟩ hst ⟨at_, xs, v2, hseg, hat, rfl, hR⟩ hRb
      have hsl : (segs la).length ≤ 600 := hsg
      have HK := Lib.hid (And.intro hk (And.intro hsl ha))
      have HSZ := Lib.hid hsZ
      clear hsZ
      clear hseg hR hk hsl ha
      gi_wp2
      refine ⟨Below.refl _ _, fun W2 hs => ?_⟩
      have hs02 : Stab (fun _ => False) Z.heap.size W0 W2 := hst.trans hs (fun b h => h.elim)
      have hsZ := HSZ.out
      have hJ := SplitsJ.stab ⟨h1, h2, h3, h4, h5, h6, h7⟩ hs02 (by omega) (by omega)
      clear h1 h2 h3 h4 h5 h6 h7 hst hs hs02
      obtain ⟨b1, b2, b3, b4, h5, h6, h7⟩ := hJ
      have c1 := b1.cell
      have c2 := b2.cell
      have f1 := b1.frozen
      have e1 : wrap64 ((k : Int) + 1) = (k : Int) + 1 := by have := HK.out; unfold wrap64; omega
      have e2 : wrap64 (k : Int) = (k : Int) := by have := HK.out; unfold wrap64; omega
      have hJ2 : ∀ V, V = W2.setCell ⟨W.heap.size, 0, none⟩ (.int .i64 ((k : Int) + 1)) → SplitsJ x2.heap.size w.heap.size W.heap.size D a1 ((segs la).length : Int) (.slice Aw rx.length cw) x2 ((k : Int) + 1) V ∧ Keep (fun b => b < w.heap.size ∨ b = W.heap.size + 1) W2 V ∧ Books W2 V := by
        rintro V rfl
        refine ⟨⟨b1.set _, b2.kept (grownBy_setCell' W2 W.heap.size _) (by simp; omega), b3.kept (grownBy_setCell' W2 W.heap.size _) (by simp; omega), b4.kept (grownBy_setCell' W2 W.heap.size _) (by simp; omega), h5.setCell (p := ⟨W.heap.size, 0, none⟩) (by simp; omega) _, by simp [World.setCell]; omega, Books.setCell _ _ _ _ _ h7 rfl⟩, Keep.setCell _ (by simp; omega) _, Books.setCell _ _ _⟩
      have HJ2 := Lib.hid hJ2
      clear hJ2 b2 b3 b4 h5 h6 h7
      by_cases hka : (k : Int) = a1
      · have HKA := Lib.hid hka
        have E1 := Lib.hid e1
        have E2 := Lib.hid e2
        have hkb : (wrap64 (k : Int) == a1) = true := by rw [e2]; simpa using hka
        clear hka e2
        gi_wp2
        obtain ⟨j1, j2, j3⟩ := HJ2.out _ rfl
        refine ⟨j2, j3, rfl, ?_⟩
        unfold SplitsF
        have hN := HK.out.1
        rw [if_pos (by have := HKA.out; omega), show a1 + 1 = (k : Int) + 1 from by have := HKA.out; omega]
        exact j1
      · have HKA := Lib.hid hka
        have hkb : (wrap64 (k : Int) == a1) = false := by rw [e2]; simpa using hka
        clear hka e2
        gi_wp2
        obtain ⟨j1, j2, j3⟩ := HJ2.out _ rfl
        exact ⟨j2, j3, by have := HK.out.2.2; have := HKA.out; omega, j1⟩
    case hfin =>
      rintro D2 V hv hD2 hd2
      unfold SplitsF at hv
      generalize hend : (if 0 ≤ a1 ∧ a1 < ((segs la).length : Int) then a1 + 1 else ((segs la).length : Int)) = nd at hv
      have HE := Lib.hid hend
      clear hend
      have HV := Lib.hid (And.intro hv hd2)
      obtain ⟨b1, b2, b3, b4, h5, h6, h7⟩ := hv
      have c1 := b1.cell
      have c2 := b2.cell
      have c3 := b3.cell
      have c4 := b4.cell
      clear b1 b2 b3 b4 h5 h6 h7 hd2
      obtain ⟨kk, hkk⟩ := known_true
      have hin : ∀ x ∈ rx, x.length ≤ 700 := by
        intro x hx
        rw [← HRX.out, List.mem_map] at hx
        obtain ⟨y, hy, rfl⟩ := hx
        have := sgo_mem _ _ _ y hy; simp at this; omega
      have hL := Lib.hid (lists_self rx 700 (by omega) (by have := HL.out.1; omega) hin (rx.length + 702) (by omega))
      have hS := Lib.hid (same_self rl (by omega) (rl.length + 1) (by omega))
      have B5 := HV.out.1.2.2.2.2.1
      have HC1 := Lib.hid (Kd.C_below HB2.out.2.1 B5)
      have HC2 := Lib.hid (Kd.C_below HB2.out.2.2.2.1 B5)
      have HC3 := Lib.hid (Kd.C_below HB2.out.2.2.1 B5)
      have HC4 := Lib.hid (Kd.C_below HB2.out.2.2.2.2.2 B5)
      have BV : Below w.heap.size w V := HBX.out.trans ((HB2.out.1.trans (B5.mono HB2.out.1.size)).mono HBX.out.size)
      have HC5 := Lib.hid (Kd.C_below D0 BV)
      have HBV := Lib.hid BV
      have hLV := Lib.hid (show LastS w V (w.heap.size + 1) 4 [D2, D] V from ⟨⟨false, (B5.block _ HRx.out.lt).trans HRx.out⟩, Nb.refl V, BV, fun E hE => by
        rcases List.mem_cons.1 hE with rfl | hE
        · exact HV.out.2
        · rw [List.mem_singleton.1 hE]; exact HV.out.1.2.2.2.2.2.2⟩)
      clear B5 BV hin
      have HKK := Lib.hid hkk
      clear hkk
      have d1 : (((segs la).length : Int) == (rx.length : Int)) = true := by rw [HL.out.1]; simp
      have HSZ := Lib.hid hsZ
      clear hsZ
      have K8 : ∀ X, Calls Try.prog 8 #[] X fun e w' => e = .returned (.bool true) ∧ Below X.heap.size X w' := fun X => cuneiformlaw06_known.calls kk true X HKK.out
      have K10 : ∀ X, LastS w V (w.heap.size + 1) 4 [D2, D] X → Calls Try.prog 10 #[.slice Al rx.length cl, .slice Aw rx.length cw] X fun e w' => e = .returned (.bool true) ∧ Below X.heap.size X w' := by
        intro X hX
        refine (cuneiformlaw06_Lists.calls (rx.length + 702) Al cl rx Aw cw rx true X (C_nb_rows HC1.out hX.2.1) HA1.out.2.1 (C_nb_rows HC2.out hX.2.1) HA1.out.2.2.2.1 hL.out).mono ?_
        rintro e w' ⟨rfl, h⟩
        exact ⟨rfl, h.below⟩
      have K9 : ∀ X, LastS w V (w.heap.size + 1) 4 [D2, D] X → Calls Try.prog 9 #[.slice Ao rl.length co, .slice Af rl.length cf] X fun e w' => e = .returned (.bool true) ∧ Below X.heap.size X w' := by
        intro X hX
        refine (cuneiformref01_Same.calls (rl.length + 1) Ao co rl Af cf rl true X (C_nb_int HC3.out hX.2.1) HA1.out.2.2.1 (C_nb_int HC4.out hX.2.1) HA1.out.2.2.2.2.2 hS.out).mono ?_
        rintro e w' ⟨rfl, h⟩
        exact ⟨rfl, h.below⟩
      have K13 : ∀ X, LastS w V (w.heap.size + 1) 4 [D2, D] X → Calls Try.prog 13 #[.slice a0 la.length cap0] X fun e w' => e = .returned (.int .i64 (rx.length : Int)) ∧ Below X.heap.size X w' := by
        intro X hX
        have h := fence_Count.calls a0 cap0 la X (C_nb_int HC5.out hX.2.1) HA1.out.1 (by omega)
        rw [← HL.out.1] at h
        exact h
      have hcase : (0 ≤ a1 ∧ a1 < (rx.length : Int) ∧ nd = a1 + 1) ∨ (a1 < 0 ∧ nd = (rx.length : Int)) ∨ (0 ≤ a1 ∧ ¬ a1 < (rx.length : Int) ∧ nd = (rx.length : Int)) := by
        have h1 := HE.out
        have h2 := HL.out.1
        split at h1 <;> omega
      rcases hcase with ⟨q1, q2, rfl⟩ | ⟨q1, rfl⟩ | ⟨q1, q2, rfl⟩
      · have e3 : wrap64 (a1 + 1) = a1 + 1 := by have := HL.out.1; unfold wrap64; omega
        go_wp2_with (fail)
        have HZ := Lib.hid (And.intro hj (And.intro hbwZ (And.intro hbwY (And.intro hxs hD2))))
        have hn1 : x2.heap.size ≠ w.heap.size + 1 := by omega
        have hn2 : x2.heap.size + 2 ≠ w.heap.size + 1 := by omega
        have hn3 : W.heap.size ≠ w.heap.size + 1 := by have := HV.out.1.2.2.2.2.1.size; omega
        have fB := hLV.out.frozen
        have keepB : ∀ U w' : World, (U.cell? ⟨x2.heap.size, 0, none⟩ = some (.slice Aw rx.length cw) ∧ U.cell? ⟨x2.heap.size + 2, 0, none⟩ = some (.int .i64 ((segs la).length : Int)) ∧ U.cell? ⟨W.heap.size, 0, none⟩ = some (.int .i64 (a1 + 1)) ∧ U.cell? ⟨w.heap.size + 1, 0, none⟩ = some (boxVal U (w.heap.size + 1)) ∧ U.frozen? ⟨w.heap.size + 1, 0, none⟩ = false ∧ LastS w V (w.heap.size + 1) 4 [D2, D] U) → Below U.heap.size U w' → (w'.cell? ⟨x2.heap.size, 0, none⟩ = some (.slice Aw rx.length cw) ∧ w'.cell? ⟨x2.heap.size + 2, 0, none⟩ = some (.int .i64 ((segs la).length : Int)) ∧ w'.cell? ⟨W.heap.size, 0, none⟩ = some (.int .i64 (a1 + 1)) ∧ w'.cell? ⟨w.heap.size + 1, 0, none⟩ = some (boxVal w' (w.heap.size + 1)) ∧ w'.frozen? ⟨w.heap.size + 1, 0, none⟩ = false ∧ LastS w V (w.heap.size + 1) 4 [D2, D] w') := fun U w' h hb => ⟨pw_cell_below hb h.1, pw_cell_below hb h.2.1, pw_cell_below hb h.2.2.1, (h.2.2.2.2.2.below hb).cell, (h.2.2.2.2.2.below hb).frozen, h.2.2.2.2.2.below hb⟩
        have keepS : ∀ (U : World) (v : Bool), (U.cell? ⟨x2.heap.size, 0, none⟩ = some (.slice Aw rx.length cw) ∧ U.cell? ⟨x2.heap.size + 2, 0, none⟩ = some (.int .i64 ((segs la).length : Int)) ∧ U.cell? ⟨W.heap.size, 0, none⟩ = some (.int .i64 (a1 + 1)) ∧ U.cell? ⟨w.heap.size + 1, 0, none⟩ = some (boxVal U (w.heap.size + 1)) ∧ U.frozen? ⟨w.heap.size + 1, 0, none⟩ = false ∧ LastS w V (w.heap.size + 1) 4 [D2, D] U) → ((U.setCell ⟨w.heap.size + 1, 0, none⟩ (.bool v)).cell? ⟨x2.heap.size, 0, none⟩ = some (.slice Aw rx.length cw) ∧ (U.setCell ⟨w.heap.size + 1, 0, none⟩ (.bool v)).cell? ⟨x2.heap.size + 2, 0, none⟩ = some (.int .i64 ((segs la).length : Int)) ∧ (U.setCell ⟨w.heap.size + 1, 0, none⟩ (.bool v)).cell? ⟨W.heap.size, 0, none⟩ = some (.int .i64 (a1 + 1)) ∧ (U.setCell ⟨w.heap.size + 1, 0, none⟩ (.bool v)).cell? ⟨w.heap.size + 1, 0, none⟩ = some (boxVal (U.setCell ⟨w.heap.size + 1, 0, none⟩ (.bool v)) (w.heap.size + 1)) ∧ (U.setCell ⟨w.heap.size + 1, 0, none⟩ (.bool v)).frozen? ⟨w.heap.size + 1, 0, none⟩ = false ∧ LastS w V (w.heap.size + 1) 4 [D2, D] (U.setCell ⟨w.heap.size + 1, 0, none⟩ (.bool v))) := fun U v h => ⟨cell_far h.1 hn1, cell_far h.2.1 hn2, cell_far h.2.2.1 hn3, (h.2.2.2.2.2.store (by omega) v).cell, (h.2.2.2.2.2.store (by omega) v).frozen, h.2.2.2.2.2.store (by omega) v⟩
        go_region_held3 (fun w' => w'.cell? ⟨x2.heap.size, 0, none⟩ = some (.slice Aw rx.length cw) ∧ w'.cell? ⟨x2.heap.size + 2, 0, none⟩ = some (.int .i64 ((segs la).length : Int)) ∧ w'.cell? ⟨W.heap.size, 0, none⟩ = some (.int .i64 (a1 + 1)) ∧ w'.cell? ⟨w.heap.size + 1, 0, none⟩ = some (boxVal w' (w.heap.size + 1)) ∧ w'.frozen? ⟨w.heap.size + 1, 0, none⟩ = false ∧ LastS w V (w.heap.size + 1) 4 [D2, D] w')
          (first
            | exact ⟨c3, c4, c1, hLV.out.drew.cell, fB, hLV.out.drew⟩
            | exact keepB _ _ (by assumption) hb
            | assumption
            | exact keepS _ _ (by assumption)
            | (trace_state; fail))
          (first
            | (go_at_call 8; refine (K8 _).mono ?_; rintro e w' ⟨rfl, hb⟩)
            | (go_at_call 10; refine (K10 _ (lastOf (by assumption))).mono ?_; rintro e w' ⟨rfl, hb⟩)
            | (go_at_call 9; refine (K9 _ (lastOf (by assumption))).mono ?_; rintro e w' ⟨rfl, hb⟩)
            | (go_at_call 13; refine (K13 _ (lastOf (by assumption))).mono ?_; rintro e w' ⟨rfl, hb⟩))
        have hF := lastOf (by assumption)
        have hct := hF.told
        generalize w'.setCell ⟨w.heap.size + 1, 0, none⟩ (.bool true) = V2 at *
        have HF := Lib.hid hF
        clear hF K8 K9 K10 K13 keepB keepS
        go_wp2_with (fail)
        have hDD : D ≠ D2 := by have := HSZ.out; have := hD2; omega
        have hq2 : V2.heap[D2]? = some (.deferred (some [])) := HF.out.2.2.2 D2 (by simp)
        have hq1 : V2.heap[D]? = some (.deferred (some [])) := HF.out.2.2.2 D (by simp)
        have st2 : Stab (fun _ => False) w.heap.size V2 (V2.putObj D2 (.deferred none)) := stab_shut hq2 (by have := HSZ.out; have := HV.out.1.2.2.2.2.1.size; omega)
        have st1 : Stab (fun _ => False) w.heap.size (V2.putObj D2 (.deferred none)) ((V2.putObj D2 (.deferred none)).putObj D (.deferred none)) := stab_shut ((World.putObj_heap_other hDD).trans hq1) (by omega)
        have hcb := st1.cell (st2.cell hct (fun h => h)) (fun h => h)
        refine marks_ret2 (D1 := D) (D2 := D2) (v := .bool true) (by simp [results, Try.results4, Act.put, go_sem, hcb]) (by simp [Act.put]) hq2 hq1 hDD ⟨rfl, ?_⟩
        exact st1.below (st2.below HF.out.2.2.1 (Nat.le_refl _) HF.out.2.2.1.size (fun _ _ h => h)) (Nat.le_refl _) (st2.below HF.out.2.2.1 (Nat.le_refl _) HF.out.2.2.1.size (fun _ _ h => h)).size (fun _ _ h => h)
      · skip
        go_wp2_with (fail)
        have HZ := Lib.hid (And.intro hj (And.intro hbwZ (And.intro hbwY (And.intro hxs hD2))))
        have hn1 : x2.heap.size ≠ w.heap.size + 1 := by omega
        have hn2 : x2.heap.size + 2 ≠ w.heap.size + 1 := by omega
        have hn3 : W.heap.size ≠ w.heap.size + 1 := by have := HV.out.1.2.2.2.2.1.size; omega
        have fB := hLV.out.frozen
        have keepB : ∀ U w' : World, (U.cell? ⟨x2.heap.size, 0, none⟩ = some (.slice Aw rx.length cw) ∧ U.cell? ⟨x2.heap.size + 2, 0, none⟩ = some (.int .i64 ((segs la).length : Int)) ∧ U.cell? ⟨W.heap.size, 0, none⟩ = some (.int .i64 (rx.length : Int)) ∧ U.cell? ⟨w.heap.size + 1, 0, none⟩ = some (boxVal U (w.heap.size + 1)) ∧ U.frozen? ⟨w.heap.size + 1, 0, none⟩ = false ∧ LastS w V (w.heap.size + 1) 4 [D2, D] U) → Below U.heap.size U w' → (w'.cell? ⟨x2.heap.size, 0, none⟩ = some (.slice Aw rx.length cw) ∧ w'.cell? ⟨x2.heap.size + 2, 0, none⟩ = some (.int .i64 ((segs la).length : Int)) ∧ w'.cell? ⟨W.heap.size, 0, none⟩ = some (.int .i64 (rx.length : Int)) ∧ w'.cell? ⟨w.heap.size + 1, 0, none⟩ = some (boxVal w' (w.heap.size + 1)) ∧ w'.frozen? ⟨w.heap.size + 1, 0, none⟩ = false ∧ LastS w V (w.heap.size + 1) 4 [D2, D] w') := fun U w' h hb => ⟨pw_cell_below hb h.1, pw_cell_below hb h.2.1, pw_cell_below hb h.2.2.1, (h.2.2.2.2.2.below hb).cell, (h.2.2.2.2.2.below hb).frozen, h.2.2.2.2.2.below hb⟩
        have keepS : ∀ (U : World) (v : Bool), (U.cell? ⟨x2.heap.size, 0, none⟩ = some (.slice Aw rx.length cw) ∧ U.cell? ⟨x2.heap.size + 2, 0, none⟩ = some (.int .i64 ((segs la).length : Int)) ∧ U.cell? ⟨W.heap.size, 0, none⟩ = some (.int .i64 (rx.length : Int)) ∧ U.cell? ⟨w.heap.size + 1, 0, none⟩ = some (boxVal U (w.heap.size + 1)) ∧ U.frozen? ⟨w.heap.size + 1, 0, none⟩ = false ∧ LastS w V (w.heap.size + 1) 4 [D2, D] U) → ((U.setCell ⟨w.heap.size + 1, 0, none⟩ (.bool v)).cell? ⟨x2.heap.size, 0, none⟩ = some (.slice Aw rx.length cw) ∧ (U.setCell ⟨w.heap.size + 1, 0, none⟩ (.bool v)).cell? ⟨x2.heap.size + 2, 0, none⟩ = some (.int .i64 ((segs la).length : Int)) ∧ (U.setCell ⟨w.heap.size + 1, 0, none⟩ (.bool v)).cell? ⟨W.heap.size, 0, none⟩ = some (.int .i64 (rx.length : Int)) ∧ (U.setCell ⟨w.heap.size + 1, 0, none⟩ (.bool v)).cell? ⟨w.heap.size + 1, 0, none⟩ = some (boxVal (U.setCell ⟨w.heap.size + 1, 0, none⟩ (.bool v)) (w.heap.size + 1)) ∧ (U.setCell ⟨w.heap.size + 1, 0, none⟩ (.bool v)).frozen? ⟨w.heap.size + 1, 0, none⟩ = false ∧ LastS w V (w.heap.size + 1) 4 [D2, D] (U.setCell ⟨w.heap.size + 1, 0, none⟩ (.bool v))) := fun U v h => ⟨cell_far h.1 hn1, cell_far h.2.1 hn2, cell_far h.2.2.1 hn3, (h.2.2.2.2.2.store (by omega) v).cell, (h.2.2.2.2.2.store (by omega) v).frozen, h.2.2.2.2.2.store (by omega) v⟩
        go_region_held3 (fun w' => w'.cell? ⟨x2.heap.size, 0, none⟩ = some (.slice Aw rx.length cw) ∧ w'.cell? ⟨x2.heap.size + 2, 0, none⟩ = some (.int .i64 ((segs la).length : Int)) ∧ w'.cell? ⟨W.heap.size, 0, none⟩ = some (.int .i64 (rx.length : Int)) ∧ w'.cell? ⟨w.heap.size + 1, 0, none⟩ = some (boxVal w' (w.heap.size + 1)) ∧ w'.frozen? ⟨w.heap.size + 1, 0, none⟩ = false ∧ LastS w V (w.heap.size + 1) 4 [D2, D] w')
          (first
            | exact ⟨c3, c4, c1, hLV.out.drew.cell, fB, hLV.out.drew⟩
            | exact keepB _ _ (by assumption) hb
            | assumption
            | exact keepS _ _ (by assumption)
            | (trace_state; fail))
          (first
            | (go_at_call 8; refine (K8 _).mono ?_; rintro e w' ⟨rfl, hb⟩)
            | (go_at_call 10; refine (K10 _ (lastOf (by assumption))).mono ?_; rintro e w' ⟨rfl, hb⟩)
            | (go_at_call 9; refine (K9 _ (lastOf (by assumption))).mono ?_; rintro e w' ⟨rfl, hb⟩)
            | (go_at_call 13; refine (K13 _ (lastOf (by assumption))).mono ?_; rintro e w' ⟨rfl, hb⟩))
        have hF := lastOf (by assumption)
        have hct := hF.told
        generalize w'.setCell ⟨w.heap.size + 1, 0, none⟩ (.bool true) = V2 at *
        have HF := Lib.hid hF
        clear hF K8 K9 K10 K13 keepB keepS
        go_wp2_with (fail)
        have hDD : D ≠ D2 := by have := HSZ.out; have := hD2; omega
        have hq2 : V2.heap[D2]? = some (.deferred (some [])) := HF.out.2.2.2 D2 (by simp)
        have hq1 : V2.heap[D]? = some (.deferred (some [])) := HF.out.2.2.2 D (by simp)
        have st2 : Stab (fun _ => False) w.heap.size V2 (V2.putObj D2 (.deferred none)) := stab_shut hq2 (by have := HSZ.out; have := HV.out.1.2.2.2.2.1.size; omega)
        have st1 : Stab (fun _ => False) w.heap.size (V2.putObj D2 (.deferred none)) ((V2.putObj D2 (.deferred none)).putObj D (.deferred none)) := stab_shut ((World.putObj_heap_other hDD).trans hq1) (by omega)
        have hcb := st1.cell (st2.cell hct (fun h => h)) (fun h => h)
        refine marks_ret2 (D1 := D) (D2 := D2) (v := .bool true) (by simp [results, Try.results4, Act.put, go_sem, hcb]) (by simp [Act.put]) hq2 hq1 hDD ⟨rfl, ?_⟩
        exact st1.below (st2.below HF.out.2.2.1 (Nat.le_refl _) HF.out.2.2.1.size (fun _ _ h => h)) (Nat.le_refl _) (st2.below HF.out.2.2.1 (Nat.le_refl _) HF.out.2.2.1.size (fun _ _ h => h)).size (fun _ _ h => h)
      · skip
        go_wp2_with (fail)
        have HZ := Lib.hid (And.intro hj (And.intro hbwZ (And.intro hbwY (And.intro hxs hD2))))
        have hn1 : x2.heap.size ≠ w.heap.size + 1 := by omega
        have hn2 : x2.heap.size + 2 ≠ w.heap.size + 1 := by omega
        have hn3 : W.heap.size ≠ w.heap.size + 1 := by have := HV.out.1.2.2.2.2.1.size; omega
        have fB := hLV.out.frozen
        have keepB : ∀ U w' : World, (U.cell? ⟨x2.heap.size, 0, none⟩ = some (.slice Aw rx.length cw) ∧ U.cell? ⟨x2.heap.size + 2, 0, none⟩ = some (.int .i64 ((segs la).length : Int)) ∧ U.cell? ⟨W.heap.size, 0, none⟩ = some (.int .i64 (rx.length : Int)) ∧ U.cell? ⟨w.heap.size + 1, 0, none⟩ = some (boxVal U (w.heap.size + 1)) ∧ U.frozen? ⟨w.heap.size + 1, 0, none⟩ = false ∧ LastS w V (w.heap.size + 1) 4 [D2, D] U) → Below U.heap.size U w' → (w'.cell? ⟨x2.heap.size, 0, none⟩ = some (.slice Aw rx.length cw) ∧ w'.cell? ⟨x2.heap.size + 2, 0, none⟩ = some (.int .i64 ((segs la).length : Int)) ∧ w'.cell? ⟨W.heap.size, 0, none⟩ = some (.int .i64 (rx.length : Int)) ∧ w'.cell? ⟨w.heap.size + 1, 0, none⟩ = some (boxVal w' (w.heap.size + 1)) ∧ w'.frozen? ⟨w.heap.size + 1, 0, none⟩ = false ∧ LastS w V (w.heap.size + 1) 4 [D2, D] w') := fun U w' h hb => ⟨pw_cell_below hb h.1, pw_cell_below hb h.2.1, pw_cell_below hb h.2.2.1, (h.2.2.2.2.2.below hb).cell, (h.2.2.2.2.2.below hb).frozen, h.2.2.2.2.2.below hb⟩
        have keepS : ∀ (U : World) (v : Bool), (U.cell? ⟨x2.heap.size, 0, none⟩ = some (.slice Aw rx.length cw) ∧ U.cell? ⟨x2.heap.size + 2, 0, none⟩ = some (.int .i64 ((segs la).length : Int)) ∧ U.cell? ⟨W.heap.size, 0, none⟩ = some (.int .i64 (rx.length : Int)) ∧ U.cell? ⟨w.heap.size + 1, 0, none⟩ = some (boxVal U (w.heap.size + 1)) ∧ U.frozen? ⟨w.heap.size + 1, 0, none⟩ = false ∧ LastS w V (w.heap.size + 1) 4 [D2, D] U) → ((U.setCell ⟨w.heap.size + 1, 0, none⟩ (.bool v)).cell? ⟨x2.heap.size, 0, none⟩ = some (.slice Aw rx.length cw) ∧ (U.setCell ⟨w.heap.size + 1, 0, none⟩ (.bool v)).cell? ⟨x2.heap.size + 2, 0, none⟩ = some (.int .i64 ((segs la).length : Int)) ∧ (U.setCell ⟨w.heap.size + 1, 0, none⟩ (.bool v)).cell? ⟨W.heap.size, 0, none⟩ = some (.int .i64 (rx.length : Int)) ∧ (U.setCell ⟨w.heap.size + 1, 0, none⟩ (.bool v)).cell? ⟨w.heap.size + 1, 0, none⟩ = some (boxVal (U.setCell ⟨w.heap.size + 1, 0, none⟩ (.bool v)) (w.heap.size + 1)) ∧ (U.setCell ⟨w.heap.size + 1, 0, none⟩ (.bool v)).frozen? ⟨w.heap.size + 1, 0, none⟩ = false ∧ LastS w V (w.heap.size + 1) 4 [D2, D] (U.setCell ⟨w.heap.size + 1, 0, none⟩ (.bool v))) := fun U v h => ⟨cell_far h.1 hn1, cell_far h.2.1 hn2, cell_far h.2.2.1 hn3, (h.2.2.2.2.2.store (by omega) v).cell, (h.2.2.2.2.2.store (by omega) v).frozen, h.2.2.2.2.2.store (by omega) v⟩
        go_region_held3 (fun w' => w'.cell? ⟨x2.heap.size, 0, none⟩ = some (.slice Aw rx.length cw) ∧ w'.cell? ⟨x2.heap.size + 2, 0, none⟩ = some (.int .i64 ((segs la).length : Int)) ∧ w'.cell? ⟨W.heap.size, 0, none⟩ = some (.int .i64 (rx.length : Int)) ∧ w'.cell? ⟨w.heap.size + 1, 0, none⟩ = some (boxVal w' (w.heap.size + 1)) ∧ w'.frozen? ⟨w.heap.size + 1, 0, none⟩ = false ∧ LastS w V (w.heap.size + 1) 4 [D2, D] w')
          (first
            | exact ⟨c3, c4, c1, hLV.out.drew.cell, fB, hLV.out.drew⟩
            | exact keepB _ _ (by assumption) hb
            | assumption
            | exact keepS _ _ (by assumption)
            | (trace_state; fail))
          (first
            | (go_at_call 8; refine (K8 _).mono ?_; rintro e w' ⟨rfl, hb⟩)
            | (go_at_call 10; refine (K10 _ (lastOf (by assumption))).mono ?_; rintro e w' ⟨rfl, hb⟩)
            | (go_at_call 9; refine (K9 _ (lastOf (by assumption))).mono ?_; rintro e w' ⟨rfl, hb⟩)
            | (go_at_call 13; refine (K13 _ (lastOf (by assumption))).mono ?_; rintro e w' ⟨rfl, hb⟩))
        have hF := lastOf (by assumption)
        have hct := hF.told
        generalize w'.setCell ⟨w.heap.size + 1, 0, none⟩ (.bool true) = V2 at *
        have HF := Lib.hid hF
        clear hF K8 K9 K10 K13 keepB keepS
        go_wp2_with (fail)
        have hDD : D ≠ D2 := by have := HSZ.out; have := hD2; omega
        have hq2 : V2.heap[D2]? = some (.deferred (some [])) := HF.out.2.2.2 D2 (by simp)
        have hq1 : V2.heap[D]? = some (.deferred (some [])) := HF.out.2.2.2 D (by simp)
        have st2 : Stab (fun _ => False) w.heap.size V2 (V2.putObj D2 (.deferred none)) := stab_shut hq2 (by have := HSZ.out; have := HV.out.1.2.2.2.2.1.size; omega)
        have st1 : Stab (fun _ => False) w.heap.size (V2.putObj D2 (.deferred none)) ((V2.putObj D2 (.deferred none)).putObj D (.deferred none)) := stab_shut ((World.putObj_heap_other hDD).trans hq1) (by omega)
        have hcb := st1.cell (st2.cell hct (fun h => h)) (fun h => h)
        refine marks_ret2 (D1 := D) (D2 := D2) (v := .bool true) (by simp [results, Try.results4, Act.put, go_sem, hcb]) (by simp [Act.put]) hq2 hq1 hDD ⟨rfl, ?_⟩
        exact st1.below (st2.below HF.out.2.2.1 (Nat.le_refl _) HF.out.2.2.1.size (fun _ _ h => h)) (Nat.le_refl _) (st2.below HF.out.2.2.1 (Nat.le_refl _) HF.out.2.2.1.size (fun _ _ h => h)).size (fun _ _ h => h)
  case stop =>
    rintro D c k W _ h
    exact h.elim
end Go.Proofs.Ytnflobldekhjbaa.P
