/- So many numbers from any one on come one behind the other: SerialRuns answers true for all inputs. -/
import Derived.Test.YtdgphdkebegidaaRun
import Derived.Test.YtdgphdkebegidaaAri
import Derived.Test.YtdgphdkebegidaaLast
import Derived.Test.YtdgphdkebegidaaPlain2
import Derived.RegionTactic
import Derived.Deep.RegionHeld3
set_option linter.unusedVariables false
set_option linter.unusedSimpArgs false
namespace Go.Proofs.Ytdgphdkebegidaa.P
open Go.RowKit Go.Proofs.YtdgphdkebegidaaW.PrintWords Go.Proofs.YtdgphdkebegidaaW.PrintMore Go.Proofs.Ytdgphdkebegidaa.Ext Go.Proofs.Ytdgphdkebegidaa
attribute [local go_sem] max2_int min2_int max_two min_two max_three min_three max_four min_four
attribute [local go_sem] Oper.semAt_some

theorem eql_nil (f : Fn) (fi ca : Array Value) (w : World) : (binOp .eql 36 (.func f fi ca) .nilFunc).run Try.prog w = .ok (.bool false) w := by
  kernel_rfl
attribute [local go_sem] eql_nil
theorem lastOf {a b c d : Prop} (h : a ∧ b ∧ c ∧ d) : d := h.2.2.2

/-- A loop that ends, or breaks: on it goes from either alike. -/
theorem wp_range_fin {P : Program} {g : Operand} {ps : Array Tmp} {assign body : Code} {Q : Exit → Act → World → Prop} {id : Nat} {a : Act} {w : World}
    {gf : Nat} {lb : Array Value} (hg : a.eval g = .func (.func gf) #[] lb) (eg : ∀ args w, (callFunc gf args).run P w = .ok (.enter gf args) w)
    {N : Nat} {R : Nat → Prop} {Qv : Nat → Array Value → (Nat → Prop) → Nat → World → Prop} (hit : Iter P gf lb N NoT R (fun _ => False) Qv (fun _ _ _ _ => True) w)
    (hR : ∀ b, R b → b < w.heap.size) (hps : ∀ k vs T B W, Qv k vs T B W → vs.size = ps.size)
    (I : Nat → World → Prop) (F : World → Prop)
    (hI : ∀ k W W', I k W → Stab (fun _ => False) w.heap.size W W' → I k W')
    (hF : ∀ W W', F W → Stab (fun _ => False) w.heap.size W W' → F W')
    (h0 : I 0 w) (hN : ∀ W, I N W → F W)
    (hround : ∀ (l n : Nat) (k : Nat) (T : Nat → Prop) (W0 X : World) (vs : Array Value), k < N → I k W0 → Stab (fun _ => False) w.heap.size W0 X → Qv k vs T W0.heap.size X → (∀ b, R b → b < X.heap.size) →
      assign.wpIn (Fence.wide.inRound l) n P (Exit.then (fun a₁ Xa => Below X.heap.size X Xa ∧ ∀ W2, Stab (fun _ => False) w.heap.size Xa W2 →
        body.wpIn (Fence.wide.inRound l) n P (rfPost R (I (k + 1)) (fun c W' => c = .exit id ∧ F W') W2) a₁ W2) (fun _ _ _ => False)) { tmps := (ps.zip vs).foldl (fun t (p, v) => t.setIfInBounds p v) a.tmps, defers := [] } X)
    (hfin : ∀ (D : Nat) (W : World), F W → w.heap.size ≤ D → W.heap[D]? = some (.deferred (some [])) → Q .normal { a with defers := { target := .collected D, args := #[] } :: a.defers } W) :
    (Code.rangeFunc g ps assign body).wp P (Exit.inBlock id Q) a w := by
  refine wp_range0 hg eg hit hR hps I (fun c _ W' => c = .exit id ∧ F W') hI (fun c k W W' h hs => ⟨h.1, hF W W' h.2 hs⟩) h0 hround
    (fun D W h hD hd => hfin D W (hN W h) hD hd) ?_
  rintro D c k W hk ⟨rfl, h⟩ hD hd
  have := hfin D W h hD hd
  refine wp_exit ?_
  simpa [Exit.inBlock] using this

def RunsJ (w : World) (a0 a2 n : Int) (W : World) : Prop :=
  Boxed W w.heap.size 22 (.int .u32 a0) ∧ Boxed W (w.heap.size + 1) 3 (.int .i64 a2) ∧ Boxed W (w.heap.size + 2) 4 (.bool false) ∧ Boxed W (w.heap.size + 3) 3 (.int .i64 n) ∧ Below w.heap.size w W ∧ w.heap.size + 6 ≤ W.heap.size
theorem RunsJ.stab {w W W' : World} {a0 a2 n : Int} {n0 : Nat} (h : RunsJ w a0 a2 n W) (hs : Stab (fun _ => False) n0 W W') (hx : w.heap.size ≤ n0) : RunsJ w a0 a2 n W' := by
  obtain ⟨h1, h2, h3, h4, h5, h6⟩ := h
  exact ⟨boxed_stab h1 hs (fun h => h), boxed_stab h2 hs (fun h => h), boxed_stab h3 hs (fun h => h), boxed_stab h4 hs (fun h => h), hs.below h5 hx h5.size (fun _ _ h => h), Nat.le_trans h6 hs.size⟩
def RunsF (w : World) (a0 a2 : Int) (N : Nat) (W : World) : Prop := RunsJ w a0 a2 (if 0 ≤ a2 ∧ a2 < (N : Int) then a2 else (N : Int)) W

set_option maxRecDepth 100000 in
set_option maxHeartbeats 4000000 in
theorem cuneiformlaw10_SerialRuns.walk (a0 : Int) (a1 : Int) (a2 : Int) (w : World) (w0 : (Lit.int .u32 a0).wf = true) (w1 : (Lit.int .i64 a1).wf = true) (w2 : (Lit.int .i64 a2).wf = true) :
    Calls Try.prog 7 #[.int .u32 a0, .int .i64 a1, .int .i64 a2] w fun e w' => e = .returned (.bool true) ∧ Below w.heap.size w w' := by
  have q0 := u32_of w0
  have q1 := i64_of w1
  have q2 := i64_of w2
  clear w0 w1 w2
  obtain ⟨kn, hkn⟩ : ∃ kn : Int, (if (200 : Int) < a1 then (200 : Int) else a1) = kn := ⟨_, rfl⟩
  have hk2 : kn ≤ 200 := by rw [← hkn]; split <;> omega
  have HKN := Lib.hid hkn
  refine (callsIn_wide (n := 5)).1 (callsIn_of_wp_marks Try.func7 rfl trivial ?_ rfl)
  simp only [Try.ntmps7, List.size_toArray, List.length_cons, List.length_nil, Nat.reduceAdd, Nat.reduceSub, Array.replicate_succ, Array.replicate_zero, List.push_toArray, List.append_toArray, List.nil_append, List.cons_append]
  refine wpIn_wide.2 ?_
  go_wp2_with (go_at_call 20; refine (run_call _ _ _).mono ?_; rintro e w' ⟨rfl, rfl⟩)
  have hbY : Below w.heap.size w ((((((w.alloc (.cells #[.int .u32 a0] 22)).alloc (.cells #[.int .i64 a2] 3)).alloc (.cells #[.bool false] 4)).alloc (.cells #[.int .i64 0] 3)).alloc (.cells #[.int .u32 a0] 22)).alloc (.cells #[.int .i64 kn] 3)) := ((((((Below.refl _ w).alloc (Nat.le_refl _) _).alloc (by simp) _).alloc (by simp; omega) _).alloc (by simp; omega) _).alloc (by simp; omega) _).alloc (by simp; omega) _
  obtain ⟨Y, hY⟩ : ∃ Y, ((((((w.alloc (.cells #[.int .u32 a0] 22)).alloc (.cells #[.int .i64 a2] 3)).alloc (.cells #[.bool false] 4)).alloc (.cells #[.int .i64 0] 3)).alloc (.cells #[.int .u32 a0] 22)).alloc (.cells #[.int .i64 kn] 3)) = Y := ⟨_, rfl⟩
  have hsY : Y.heap.size = w.heap.size + 6 := by rw [← hY]; simp
  have b0 : Boxed Y w.heap.size 22 (.int .u32 a0) := by rw [← hY]; exact (((((Boxed.new w 22 _).alloc _).alloc _).alloc _).alloc _).alloc _
  have b1 : Boxed Y (w.heap.size + 1) 3 (.int .i64 a2) := by rw [← hY]; have := ((((Boxed.new (w.alloc (.cells #[.int .u32 a0] 22)) 3 (.int .i64 a2)).alloc (.cells #[.bool false] 4)).alloc (.cells #[.int .i64 0] 3)).alloc (.cells #[.int .u32 a0] 22)).alloc (.cells #[.int .i64 kn] 3); rwa [World.size_alloc] at this
  have b2 : Boxed Y (w.heap.size + 2) 4 (.bool false) := by rw [← hY]; have := (((Boxed.new ((w.alloc (.cells #[.int .u32 a0] 22)).alloc (.cells #[.int .i64 a2] 3)) 4 (.bool false)).alloc (.cells #[.int .i64 0] 3)).alloc (.cells #[.int .u32 a0] 22)).alloc (.cells #[.int .i64 kn] 3); rwa [World.size_alloc, World.size_alloc] at this
  have b3 : Boxed Y (w.heap.size + 3) 3 (.int .i64 0) := by rw [← hY]; have := ((Boxed.new (((w.alloc (.cells #[.int .u32 a0] 22)).alloc (.cells #[.int .i64 a2] 3)).alloc (.cells #[.bool false] 4)) 3 (.int .i64 0)).alloc (.cells #[.int .u32 a0] 22)).alloc (.cells #[.int .i64 kn] 3); rwa [World.size_alloc, World.size_alloc, World.size_alloc] at this
  have b4 : Boxed Y (w.heap.size + 4) 22 (.int .u32 a0) := by rw [← hY]; have := (Boxed.new ((((w.alloc (.cells #[.int .u32 a0] 22)).alloc (.cells #[.int .i64 a2] 3)).alloc (.cells #[.bool false] 4)).alloc (.cells #[.int .i64 0] 3)) 22 (.int .u32 a0)).alloc (.cells #[.int .i64 kn] 3); rwa [World.size_alloc, World.size_alloc, World.size_alloc, World.size_alloc] at this
  have b5 : Boxed Y (w.heap.size + 5) 3 (.int .i64 kn) := by rw [← hY]; have := Boxed.new (((((w.alloc (.cells #[.int .u32 a0] 22)).alloc (.cells #[.int .i64 a2] 3)).alloc (.cells #[.bool false] 4)).alloc (.cells #[.int .i64 0] 3)).alloc (.cells #[.int .u32 a0] 22)) 3 (.int .i64 kn); rwa [World.size_alloc, World.size_alloc, World.size_alloc, World.size_alloc, World.size_alloc] at this
  rw [hY] at hbY ⊢
  clear hY hkn
  have HSY := Lib.hid hsY
  have hNN : kn.toNat ≤ 200 := by omega
  refine wp_range_fin (gf := 23) (lb := #[.pointer (some ⟨w.heap.size + 5, 0, none⟩), .pointer (some ⟨w.heap.size + 4, 0, none⟩)]) rfl (enters_of Try.func23 (by kernel_rfl) rfl)
    (run1 Y w.heap.size (w.heap.size + 5) (w.heap.size + 4) a0 kn (by omega) b5.cell b4.cell) (fun b hb => by rcases hb with hb | hb | hb <;> omega) (fun k vs T B W h => by rw [show vs = _ from h]; rfl)
    (fun k V => (a2 < 0 ∨ (k : Int) ≤ a2) ∧ RunsJ w a0 a2 (k : Int) V) (RunsF w a0 a2 kn.toNat)
    (fun k V V' h hs => ⟨h.1, h.2.stab hs (by omega)⟩) (fun V V' h hs => RunsJ.stab h hs (by omega)) ⟨by omega, b0, b1, b2, b3, hbY, by omega⟩ ?hN ?round ?hfin
  case hN =>
    rintro V ⟨h, hv⟩
    unfold RunsF
    rw [if_neg (by omega)]
    exact hv
  case round =>
    rintro l n k T W0 X0 vs hk ⟨ha, hJ⟩ hst hvs hRb
    have HK := Lib.hid (And.intro hk (And.intro hNN ha))
    have HQ := Lib.hid (And.intro q0 q2)
    have hadd : cuneiformref10_Add.f a0 (k : Int) = some (nth a0 k) := rAdd_eq a0 (k : Int) q0 (by omega)
    obtain rfl : vs = #[.int .u32 (nth a0 k)] := hvs
    have HADD := Lib.hid hadd
    generalize nth a0 k = x at *
    clear hadd hk ha hNN hsY b0 b1 b2 b3 b4 b5 hbY q0 q1 q2 hk2
    gi_wp2
    refine ⟨Below.refl _ _, fun W2 hs => ?_⟩
    have hs02 : Stab (fun _ => False) Y.heap.size W0 W2 := hst.trans hs (fun b h => h.elim)
    have hJ2 := hJ.stab hs02 (by have := HSY.out; omega)
    clear hJ hst hs hs02
    obtain ⟨b0, b1, b2, b3, h5, h6⟩ := hJ2
    have c0 := b0.cell
    have c3 := b3.cell
    gi_wp2_with (fail)
    refine (CallsIn.inRound l (callsIn_wide.2 (cuneiformref10_Add.calls a0 (k : Int) x W2 HADD.out))).mono ?_
    rintro e W3 ⟨rfl, D3⟩
    have B3 := D3.below
    have s3 : Stab (fun _ => False) W2.heap.size W2 W3 := Stab.of_below B3
    have hJ3 := RunsJ.stab ⟨b0, b1, b2, b3, h5, h6⟩ s3 (by omega)
    have HB3 := Lib.hid B3
    clear b0 b1 b2 b3 h5 h6 c0 c3 s3 B3 D3
    obtain ⟨b0, b1, b2, b3, h5, h6⟩ := hJ3
    have c1 := b1.cell
    have c3 := b3.cell
    have f3 := b3.frozen
    have HJ3 := Lib.hid (show RunsJ w a0 a2 (k : Int) W3 from ⟨b0, b1, b2, b3, h5, h6⟩)
    have hJ4 : RunsJ w a0 a2 ((k : Int) + 1) (W3.setCell ⟨w.heap.size + 3, 0, none⟩ (.int .i64 ((k : Int) + 1))) :=
      ⟨b0.kept (grownBy_setCell' W3 (w.heap.size + 3) _) (by simp), b1.kept (grownBy_setCell' W3 (w.heap.size + 3) _) (by simp), b2.kept (grownBy_setCell' W3 (w.heap.size + 3) _) (by simp), b3.set _, h5.setCell (p := ⟨w.heap.size + 3, 0, none⟩) (by show w.heap.size ≤ w.heap.size + 3; omega) _, by simp [World.setCell]; omega⟩
    have HJ4 := Lib.hid hJ4
    clear b0 b1 b2 b3 h5 h6 hJ4
    have e1 : wrap64 ((k : Int) + 1) = (k : Int) + 1 := by have := HK.out; unfold wrap64; omega
    by_cases hka : (k : Int) = a2
    · have HKA := Lib.hid hka
      have hkb : ((k : Int) == a2) = true := by simpa using hka
      clear hka e1
      gi_wp2_with (fail)
      refine ⟨Keep.of_below HB3.out, Books.of_below HB3.out, rfl, ?_⟩
      have hK1 := HK.out
      have hK2 := HKA.out
      unfold RunsF
      rw [if_pos (by omega), ← hK2]
      have := HJ3.out
      rw [← hK2] at this
      exact this
    · have HKA := Lib.hid hka
      have hkb : ((k : Int) == a2) = false := by simpa using hka
      clear hka
      gi_wp2_with (fail)
      exact ⟨(Keep.of_below HB3.out).trans (Keep.setCell _ (by simp; omega) _), (Books.of_below HB3.out).trans (Books.setCell _ _ _), by have := HK.out.2.2; have := HKA.out; omega, HJ4.out⟩
  case hfin =>
    rintro D V hv hD hd
    unfold RunsF at hv
    generalize hend : (if 0 ≤ a2 ∧ a2 < (kn.toNat : Int) then a2 else (kn.toNat : Int)) = nd at hv
    have HE := Lib.hid hend
    clear hend
    have HV := Lib.hid (And.intro hv hd)
    obtain ⟨h0, h1, h2, h3, h5, h6⟩ := hv
    have c1 := h1.cell
    have c3 := h3.cell
    have hLV := Lib.hid (show LastS w V (w.heap.size + 2) 4 [D] V from ⟨⟨false, h2⟩, Nb.refl V, h5, fun E hE => by rw [List.mem_singleton.1 hE]; exact hd⟩)
    clear h0 h1 h2 h3 h5 h6 b0 b1 b2 b3 b4 b5 hd hbY
    have hcase : (0 ≤ a2 ∧ a2 < kn ∧ 0 ≤ kn ∧ nd = a2) ∨ (a2 < 0 ∧ kn < 0 ∧ nd = 0) ∨ (a2 < 0 ∧ 0 ≤ kn ∧ nd = kn) ∨ (0 ≤ a2 ∧ kn < 0 ∧ nd = 0) ∨ (0 ≤ a2 ∧ 0 ≤ kn ∧ ¬ a2 < kn ∧ nd = kn) := by
      have := HE.out
      split at this <;> omega
    clear q0 q1 q2 hk2 hNN
    rcases hcase with ⟨s1, s2, s3, rfl⟩ | ⟨s1, s2, rfl⟩ | ⟨s1, s2, rfl⟩ | ⟨s1, s2, rfl⟩ | ⟨s1, s2, s3, rfl⟩
    · skip
      go_wp2_with (fail)
      refine (cuneiformlaw10_known.calls true V known_true).mono ?_
      rintro e w' ⟨rfl, hb⟩
      have c3' := pw_cell_below hb c3
      have hL2 := hLV.out.below hb
      have f2 := hL2.frozen
      have c2 := hL2.cell
      have HL2 := Lib.hid hL2
      clear c1 c3 hL2 hb
      go_wp2_with (fail)
      have hF := HL2.out.store (by omega) true
      have hq : (w'.setCell ⟨w.heap.size + 2, 0, none⟩ (.bool true)).heap[D]? = some (.deferred (some [])) := hF.2.2.2 D (by simp)
      have st : Stab (fun _ => False) w.heap.size (w'.setCell ⟨w.heap.size + 2, 0, none⟩ (.bool true)) ((w'.setCell ⟨w.heap.size + 2, 0, none⟩ (.bool true)).putObj D (.deferred none)) := stab_shut hq (by have := HSY.out; omega)
      have hcb := st.cell hF.told (fun h => h)
      refine marks_ret (v := .bool true) (by simp [results, Try.results7, Act.put, go_sem, hcb]) (by simp [Act.put]) hq ⟨rfl, ?_⟩
      exact st.below hF.2.2.1 (Nat.le_refl _) hF.2.2.1.size (fun _ _ h => h)
    · skip
      go_wp2_with (fail)
      refine (cuneiformlaw10_known.calls true V known_true).mono ?_
      rintro e w' ⟨rfl, hb⟩
      have c3' := pw_cell_below hb c3
      have hL2 := hLV.out.below hb
      have f2 := hL2.frozen
      have c2 := hL2.cell
      have HL2 := Lib.hid hL2
      clear c1 c3 hL2 hb
      go_wp2_with (fail)
      have hF := HL2.out.store (by omega) true
      have hq : (w'.setCell ⟨w.heap.size + 2, 0, none⟩ (.bool true)).heap[D]? = some (.deferred (some [])) := hF.2.2.2 D (by simp)
      have st : Stab (fun _ => False) w.heap.size (w'.setCell ⟨w.heap.size + 2, 0, none⟩ (.bool true)) ((w'.setCell ⟨w.heap.size + 2, 0, none⟩ (.bool true)).putObj D (.deferred none)) := stab_shut hq (by have := HSY.out; omega)
      have hcb := st.cell hF.told (fun h => h)
      refine marks_ret (v := .bool true) (by simp [results, Try.results7, Act.put, go_sem, hcb]) (by simp [Act.put]) hq ⟨rfl, ?_⟩
      exact st.below hF.2.2.1 (Nat.le_refl _) hF.2.2.1.size (fun _ _ h => h)
    · skip
      go_wp2_with (fail)
      refine (cuneiformlaw10_known.calls true V known_true).mono ?_
      rintro e w' ⟨rfl, hb⟩
      have c3' := pw_cell_below hb c3
      have hL2 := hLV.out.below hb
      have f2 := hL2.frozen
      have c2 := hL2.cell
      have HL2 := Lib.hid hL2
      clear c1 c3 hL2 hb
      go_wp2_with (fail)
      have hF := HL2.out.store (by omega) true
      have hq : (w'.setCell ⟨w.heap.size + 2, 0, none⟩ (.bool true)).heap[D]? = some (.deferred (some [])) := hF.2.2.2 D (by simp)
      have st : Stab (fun _ => False) w.heap.size (w'.setCell ⟨w.heap.size + 2, 0, none⟩ (.bool true)) ((w'.setCell ⟨w.heap.size + 2, 0, none⟩ (.bool true)).putObj D (.deferred none)) := stab_shut hq (by have := HSY.out; omega)
      have hcb := st.cell hF.told (fun h => h)
      refine marks_ret (v := .bool true) (by simp [results, Try.results7, Act.put, go_sem, hcb]) (by simp [Act.put]) hq ⟨rfl, ?_⟩
      exact st.below hF.2.2.1 (Nat.le_refl _) hF.2.2.1.size (fun _ _ h => h)
    · skip
      go_wp2_with (fail)
      refine (cuneiformlaw10_known.calls true V known_true).mono ?_
      rintro e w' ⟨rfl, hb⟩
      have c3' := pw_cell_below hb c3
      have hL2 := hLV.out.below hb
      have f2 := hL2.frozen
      have c2 := hL2.cell
      have HL2 := Lib.hid hL2
      clear c1 c3 hL2 hb
      go_wp2_with (fail)
      have hF := HL2.out.store (by omega) true
      have hq : (w'.setCell ⟨w.heap.size + 2, 0, none⟩ (.bool true)).heap[D]? = some (.deferred (some [])) := hF.2.2.2 D (by simp)
      have st : Stab (fun _ => False) w.heap.size (w'.setCell ⟨w.heap.size + 2, 0, none⟩ (.bool true)) ((w'.setCell ⟨w.heap.size + 2, 0, none⟩ (.bool true)).putObj D (.deferred none)) := stab_shut hq (by have := HSY.out; omega)
      have hcb := st.cell hF.told (fun h => h)
      refine marks_ret (v := .bool true) (by simp [results, Try.results7, Act.put, go_sem, hcb]) (by simp [Act.put]) hq ⟨rfl, ?_⟩
      exact st.below hF.2.2.1 (Nat.le_refl _) hF.2.2.1.size (fun _ _ h => h)
    · skip
      go_wp2_with (fail)
      refine (cuneiformlaw10_known.calls true V known_true).mono ?_
      rintro e w' ⟨rfl, hb⟩
      have c3' := pw_cell_below hb c3
      have hL2 := hLV.out.below hb
      have f2 := hL2.frozen
      have c2 := hL2.cell
      have HL2 := Lib.hid hL2
      clear c1 c3 hL2 hb
      go_wp2_with (fail)
      have hF := HL2.out.store (by omega) true
      have hq : (w'.setCell ⟨w.heap.size + 2, 0, none⟩ (.bool true)).heap[D]? = some (.deferred (some [])) := hF.2.2.2 D (by simp)
      have st : Stab (fun _ => False) w.heap.size (w'.setCell ⟨w.heap.size + 2, 0, none⟩ (.bool true)) ((w'.setCell ⟨w.heap.size + 2, 0, none⟩ (.bool true)).putObj D (.deferred none)) := stab_shut hq (by have := HSY.out; omega)
      have hcb := st.cell hF.told (fun h => h)
      refine marks_ret (v := .bool true) (by simp [results, Try.results7, Act.put, go_sem, hcb]) (by simp [Act.put]) hq ⟨rfl, ?_⟩
      exact st.below hF.2.2.1 (Nat.le_refl _) hF.2.2.1.size (fun _ _ h => h)
end Go.Proofs.Ytdgphdkebegidaa.P
