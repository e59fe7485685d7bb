/- Part 22 of the proof of TopWire: Itn, Par. -/
import Derived.Test.YtgdlpgakhhebeaaGreatDoorMg00
import Derived.Test.YtgdlpgakhhebeaaGreatDoorMg11
import Derived.Test.YtgdlpgakhhebeaaGreatDoorMg21
section
set_option linter.unusedVariables false
namespace Go.Proofs.YtgdlpgakhhebeaaGreatDoor
open Go.RowKit

/-- The iterator's blocks, and the loop's own two from n on. -/
def Bk (n : Nat) (T : Nat → Prop) : Nat → Prop := fun b => T b ∨ b = n ∨ b = n + 1
/-- Nothing but T has changed. -/
abbrev StabN (T : Nat → Prop) (W W' : World) : Prop := Stab T W.heap.size W W'
theorem StabN.put {T : Nat → Prop} (W : World) {l : Nat} (o' : Obj) (hT : T l) : StabN T W (W.putObj l o') :=
  ⟨rfl, rfl, rfl, by simp, fun k x hk hn hb => (World.putObj_heap_other (fun e => hn (by rw [e]; exact hT))).trans hk⟩
theorem StabN.any {T : Nat → Prop} {n : Nat} {W W' : World} (h : StabN T W W') : Stab T n W W' := ⟨h.os, h.tape, h.output, h.size, fun k o hk hn _ => h.same k o hk hn (.inr (Array.getElem?_eq_some_iff.1 hk).1)⟩
theorem StabN.mono {T T' : Nat → Prop} {W W' : World} (h : StabN T W W') (hT : ∀ b, T b → T' b) : StabN T' W W' := ⟨h.os, h.tape, h.output, h.size, fun k o hk hn hb => h.same k o hk (fun ht => hn (hT k ht)) hb⟩
theorem StabN.trans {T T' : Nat → Prop} {A B C : World} (h : StabN T A B) (k : StabN T' B C) (hT : ∀ b, T' b → T b ∨ A.heap.size ≤ b) : StabN T A C := Stab.trans h (StabN.any k) hT
theorem StabN.keep {T R : Nat → Prop} {W W' : World} (h : StabN T W W') (hR : ∀ b, R b → b < W.heap.size → ¬ T b) : Keep R W W' := ⟨h.os, h.tape, h.output, h.size, fun k o h1 h2 => h.same k o h1 (hR k h2 (Array.getElem?_eq_some_iff.1 h1).1) (.inr (Array.getElem?_eq_some_iff.1 h1).1)⟩

/-- How a round's body may be left. -/
def rfPostN (R : Nat → Prop) (I : World → Prop) (Ix : Code → World → Prop) (W : World) : Exit → Act → World → Prop
  | .normal, _, W' => Keep R W W' ∧ I W'
  | .ret, _, W' => Keep R W W' ∧ Ix .ret W'
  | .exit id, _, W' => Keep R W W' ∧ Ix (.exit id) W'
  | .goto t, _, W' => Keep R W W' ∧ Ix (.goto t) W'
  | .panic _, _, _ => False
  | .outgrown, _, _ => False

/-- THE LAW. I k T W: between two rounds, k being over, the iterator's blocks being T. Ix c k T W: round k has left by c. -/
theorem wp_rangeN {P : Program} {g : Operand} {ps : Array Tmp} {assign body : Code} {Q : Exit → Act → World → Prop} {a : Act} {w : World}
    {gf : Nat} {lb : Array Value} (hg : a.eval g = .func (.func gf) #[] lb) (eg : ∀ args w, (callFunc gf args).run P w = .ok (.enter gf args) w)
    {N : Nat} {R T0 : Nat → Prop} {Qv : Nat → Array Value → (Nat → Prop) → Nat → World → Prop} {Fin : Bool → Nat → (Nat → Prop) → World → Prop} {A : (Nat → Prop) → Prop} (hit : Iter P gf lb N A R T0 Qv Fin w) (hA0 : A T0)
    (hR : ∀ b, R b → b < w.heap.size) (hT0 : ∀ b, T0 b → b < w.heap.size) (hps : ∀ k vs T B W, Qv k vs T B W → vs.size = ps.size)
    (hFin : ∀ f k T W W', Fin f k T W → StabN (Bk w.heap.size (fun _ => False)) W W' → Fin f k T W')
    (I : Nat → (Nat → Prop) → World → Prop) (Ix : Code → Nat → (Nat → Prop) → World → Prop)
    (hI : ∀ k T T' W W', A T → A T' → I k T W → StabN (Bk w.heap.size T) W W' → (∀ b, T' b → T b ∨ W.heap.size ≤ b) → I k T' W')
    (hIx : ∀ c k T T' W W', A T → A T' → Ix c k T W → StabN (Bk w.heap.size T) W W' → (∀ b, T' b → T b ∨ W.heap.size ≤ b) → Ix c k T' W')
    (h0 : I 0 T0 w)
    (hround : ∀ (l n : Nat) (k : Nat) (T T1 : Nat → Prop) (W0 X : World) (vs : Array Value), k < N → A T → A T1 → I k T W0 → (∀ b, T1 b → T b ∨ W0.heap.size ≤ b) → StabN T W0 X → Qv k vs T1 W0.heap.size X → (∀ b, R b ∨ T1 b → b < X.heap.size) → w.heap.size + 1 < X.heap.size → ¬ T1 w.heap.size → ¬ T1 (w.heap.size + 1) →
      assign.wpIn (Fence.wide.inRound l) n P (Exit.then (fun a₁ Xa => Below X.heap.size X Xa ∧ ∀ W2, StabN (Bk w.heap.size (fun _ => False)) Xa W2 → Stab (fun _ => False) w.heap.size Xa W2 →
        body.wpIn (Fence.wide.inRound l) n P (rfPostN (fun b => R b ∨ T1 b ∨ b = w.heap.size ∨ b = w.heap.size + 1) (I (k + 1) T1) (fun c => Ix c k T1) W2) a₁ W2) (fun _ _ _ => False)) { tmps := (ps.zip vs).foldl (fun t (p, v) => t.setIfInBounds p v) a.tmps, defers := [] } X)
    (hdone : ∀ (D : Nat) (T : Nat → Prop) (W : World), I N T W → Fin true N T W → w.heap.size = D → W.heap[D]? = some (.deferred (some [])) → Q .normal { a with defers := { target := .collected D, args := #[] } :: a.defers } W)
    (hstop : ∀ (D : Nat) (c : Code) (k : Nat) (T : Nat → Prop) (W : World), k < N → Ix c k T W → Fin false k T W → w.heap.size = D → W.heap[D]? = some (.deferred (some [])) → c.wp P Q { a with defers := { target := .collected D, args := #[] } :: a.defers } W) :
    (Code.rangeFunc g ps assign body).wp P Q a w := by
  refine (wpIn_wide (n := 0)).1 (wpIn_rangeFunc ?_)
  intro fn _
  obtain ⟨rec, hrec⟩ : ∃ rec : LoopState → Option Code → Loop, rec = fun st pe => { state := st, pending := pe, fn, tmps := a.tmps, params := ps, assign, body, defers := w.heap.size } := ⟨_, rfl⟩
  obtain ⟨W1, hW1⟩ : ∃ W1, (w.alloc (.deferred (some []))).alloc (.loop (rec .ready none)) = W1 := ⟨_, rfl⟩
  have hs1 : W1.heap.size = w.heap.size + 2 := by rw [← hW1]; simp
  have hL1 : W1.heap[w.heap.size + 1]? = some (.loop (rec .ready none)) := by
    rw [← hW1]; have := World.alloc_heap_new (w.alloc (.deferred (some []))) (.loop (rec .ready none)); rwa [World.size_alloc] at this
  have hK1 : W1.heap[w.heap.size]? = some (.deferred (some [])) := by
    rw [← hW1]; exact (Below.heap_alloc _ _ _ (by simp)).trans (World.alloc_heap_new w _)
  have hb1 : Below w.heap.size w W1 := by
    rw [← hW1]; exact ((Below.refl _ w).alloc (Nat.le_refl _) _).alloc (by simp) _
  have hI1 : I 0 T0 W1 := hI 0 T0 T0 w W1 hA0 hA0 h0 (Stab.of_below hb1) (fun b hb => .inl hb)
  refine ⟨w.heap.size + 1, [{ target := .collected w.heap.size, args := #[] }], W1, { target := .fn (.func gf) lb, args := #[.func (.yield (w.heap.size + 1)) #[] #[]] }, W1, gf,
    #[.func (.yield (w.heap.size + 1)) #[] #[]] ++ lb, W1, ?_, ?_, ?_, ?_, fun h => by simp [Fence.wide] at h, ?_⟩
  · rw [← hW1, hrec]; exact run_enterLoop_outer _ _ _ _ _
  · simp only [resolve, hg]
    simp [go_sem]
  · intro f' _; trivial
  · simp [invoke, go_sem, eg]
  · refine callsIn_wide.2 ((hit (w.heap.size + 1)
      (fun k T W => A T ∧ I k T W ∧ W.heap[w.heap.size + 1]? = some (.loop (rec .ready none)) ∧ W.heap[w.heap.size]? = some (.deferred (some [])) ∧ ¬ T (w.heap.size + 1) ∧ ¬ T w.heap.size)
      (fun k T W => A T ∧ ∃ c, Ix c k T W ∧ W.heap[w.heap.size + 1]? = some (.loop (rec .done (some c))) ∧ W.heap[w.heap.size]? = some (.deferred (some [])) ∧ ¬ T (w.heap.size + 1) ∧ ¬ T w.heap.size)
      W1 (Keep.of_below hb1) ?_ ⟨hA0, hI1, hL1, hK1, fun h => by have := hT0 _ h; omega, fun h => by have := hT0 _ h; omega⟩).mono ?_)
    · rintro k T T1 W0 X vs hk ⟨hA, hi, hl, hd, hTl, hTd⟩ hA1 hT1 hT1X hst hq
      have hl0 : w.heap.size + 1 < W0.heap.size := (Array.getElem?_eq_some_iff.1 hl).1
      have hX : X.heap[w.heap.size + 1]? = some (.loop (rec .ready none)) := hst.same _ _ hl hTl (.inr hl0)
      have hXd : X.heap[w.heap.size]? = some (.deferred (some [])) := hst.same _ _ hd hTd (.inr (by omega))
      have hT1l : ¬ T1 (w.heap.size + 1) := fun h => by rcases hT1 _ h with h | h; exact hTl h; omega
      have hT1d : ¬ T1 w.heap.size := fun h => by rcases hT1 _ h with h | h; exact hTd h; omega
      have hlt : w.heap.size + 1 < X.heap.size := (Array.getElem?_eq_some_iff.1 hX).1
      have hy := run_yield (P := P) (args := vs) hX (by rw [hrec]; exact hps _ _ _ _ _ hq)
      rw [hrec] at hy
      refine ⟨fn, _, assign, body, hy, fun m => ?_⟩
      have hbd : ∀ b, R b ∨ T1 b → b < X.heap.size := fun b hb => by
        rcases hb with hb | hb
        · have := hR _ hb; omega
        · exact hT1X b hb
      refine roundIn_of_wpIn (F := Fence.wide) trivial (wpIn_mono (hround _ m k T T1 W0 X vs hk hA hA1 hi hT1 hst hq hbd hlt hT1d hT1l) ?_)
      rintro e a1 Xa hp
      cases e with
      | normal => ?_
      | ret => exact hp.elim
      | exit id => exact hp.elim
      | goto t => exact hp.elim
      | panic ch => exact hp.elim
      | outgrown => exact hp.elim
      obtain ⟨hwa, hbody⟩ := hp
      have hXa : Xa.heap[w.heap.size + 1]? = some (.loop (rec .ready none)) := (hwa.block _ hlt).trans hX
      have hlta : w.heap.size + 1 < Xa.heap.size := (Array.getElem?_eq_some_iff.1 hXa).1
      refine ⟨_, run_beginRound hXa (by rw [hrec]), ?_⟩
      obtain ⟨X2, hX2⟩ : ∃ X2, Xa.putObj (w.heap.size + 1) (.loop { rec .ready none with state := .busy }) = X2 := ⟨_, rfl⟩
      rw [hX2]
      have hl2 : X2.heap[w.heap.size + 1]? = some (.loop { rec .ready none with state := .busy }) := by rw [← hX2]; exact World.putObj_heap_same hlta
      have hd2 : X2.heap[w.heap.size]? = some (.deferred (some [])) := by rw [← hX2]; exact (World.putObj_heap_other (by omega)).trans ((hwa.block _ (by omega)).trans hXd)
      have sA : ∀ T, StabN (Bk w.heap.size T) X Xa := fun T => Stab.of_below hwa
      have sB : ∀ T, StabN (Bk w.heap.size T) Xa X2 := fun T => by rw [← hX2]; exact StabN.put _ _ (.inr (.inr rfl))
      have sC : ∀ T, StabN (Bk w.heap.size T) X X2 := fun T => StabN.trans (sA T) (sB T) (fun b hb => .inl hb)
      refine wpIn_mono (hbody X2 (sB _) (by rw [← hX2]; exact Stab.put _ _ _ hXa rfl (by omega))) ?_
      have rnd : ∀ (W3 : World) (o : Obj), Keep (fun b => R b ∨ T1 b) X2 W3 → Keep (fun b => R b ∨ T1 b) X (W3.putObj (w.heap.size + 1) o) := fun W3 o h3 => by
        have e : ∀ (b : Nat) (x : Obj), b ≠ w.heap.size + 1 → X.heap[b]? = some x → X2.heap[b]? = some x := fun b x hne hx => by
          rw [← hX2]; exact (World.putObj_heap_other hne).trans ((hwa.block _ (Array.getElem?_eq_some_iff.1 hx).1).trans hx)
        refine ⟨h3.os.trans (sC T).os, h3.tape.trans (sC T).tape, h3.output.trans (sC T).output, by have := (sC T).size; have := h3.size; simp; omega, fun b x hb hr => ?_⟩
        have hne : b ≠ w.heap.size + 1 := fun e => by
          subst e
          rcases hr with hr | hr
          · have := hR _ hr; omega
          · exact hT1l hr
        exact (World.putObj_heap_other hne).trans (h3.same _ _ (e b x hne hb) hr)
      have fin : ∀ (jump : Option Code) (W3 : World), Keep (fun b => R b ∨ T1 b ∨ b = w.heap.size ∨ b = w.heap.size + 1) X2 W3 →
          (Instr.endRound (w.heap.size + 1) jump).run P W3 = .ok (.bool jump.isNone) (W3.putObj (w.heap.size + 1) (.loop (rec (if jump.isNone then .ready else .done) jump))) ∧
          W3.heap[w.heap.size + 1]? = some (.loop { rec .ready none with state := .busy }) ∧
          (W3.putObj (w.heap.size + 1) (.loop (rec (if jump.isNone then .ready else .done) jump))).heap[w.heap.size + 1]? = some (.loop (rec (if jump.isNone then .ready else .done) jump)) ∧
          (W3.putObj (w.heap.size + 1) (.loop (rec (if jump.isNone then .ready else .done) jump))).heap[w.heap.size]? = some (.deferred (some [])) := fun jump W3 hk3 => by
        have hl3 := hk3.same _ _ hl2 (.inr (.inr (.inr rfl)))
        have := run_endRound (P := P) jump hl3
        rw [hrec] at this ⊢
        exact ⟨this, by rw [hrec] at hl3; exact hl3, World.putObj_heap_same (Array.getElem?_eq_some_iff.1 hl3).1, (World.putObj_heap_other (by omega)).trans (hk3.same _ _ hd2 (.inr (.inr (.inl rfl))))⟩
      rintro e a3 W3 hp
      cases e with
      | normal =>
        obtain ⟨hk3, hi3⟩ := hp
        obtain ⟨hr, hl3, hl4, hk4⟩ := fin none W3 hk3
        exact ⟨_, _, hr, .inl ⟨rfl, ⟨hA1, hI _ _ _ _ _ hA1 hA1 hi3 (StabN.put _ _ (.inr (.inr rfl))) (fun b hb => .inl hb), hl4, hk4, hT1l, hT1d⟩, rnd _ _ (hk3.mono (fun b hb => hb.elim .inl (fun h => .inr (.inl h))))⟩⟩
      | ret =>
        obtain ⟨hk3, hi3⟩ := hp
        obtain ⟨hr, hl3, hl4, hk4⟩ := fin (some .ret) W3 hk3
        exact ⟨_, _, hr, .inr ⟨rfl, ⟨hA1, .ret, hIx _ _ _ _ _ _ hA1 hA1 hi3 (StabN.put _ _ (.inr (.inr rfl))) (fun b hb => .inl hb), hl4, hk4, hT1l, hT1d⟩, rnd _ _ (hk3.mono (fun b hb => hb.elim .inl (fun h => .inr (.inl h))))⟩⟩
      | exit id =>
        obtain ⟨hk3, hi3⟩ := hp
        obtain ⟨hr, hl3, hl4, hk4⟩ := fin (some (.exit id)) W3 hk3
        exact ⟨_, _, hr, .inr ⟨rfl, ⟨hA1, .exit id, hIx _ _ _ _ _ _ hA1 hA1 hi3 (StabN.put _ _ (.inr (.inr rfl))) (fun b hb => .inl hb), hl4, hk4, hT1l, hT1d⟩, rnd _ _ (hk3.mono (fun b hb => hb.elim .inl (fun h => .inr (.inl h))))⟩⟩
      | goto t =>
        obtain ⟨hk3, hi3⟩ := hp
        obtain ⟨hr, hl3, hl4, hk4⟩ := fin (some (.goto t)) W3 hk3
        exact ⟨_, _, hr, .inr ⟨rfl, ⟨hA1, .goto t, hIx _ _ _ _ _ _ hA1 hA1 hi3 (StabN.put _ _ (.inr (.inr rfl))) (fun b hb => .inl hb), hl4, hk4, hT1l, hT1d⟩, rnd _ _ (hk3.mono (fun b hb => hb.elim .inl (fun h => .inr (.inl h))))⟩⟩
      | panic ch => exact hp.elim
      | outgrown => exact hp.elim
    · rintro e W2 ⟨⟨v, rfl⟩, T, T', W0, k, hA', hT', hst, hend⟩
      have hw0 : StabN (Bk w.heap.size T) W0 W2 := StabN.mono hst (fun b hb => .inl hb)
      rcases hend with ⟨rfl, ⟨hA, hi, hl, hd, hTl, hTd⟩, hf⟩ | ⟨hk, ⟨hA, c, hi, hl, hd, hTl, hTd⟩, hf⟩
      · have hl0 : w.heap.size + 1 < W0.heap.size := (Array.getElem?_eq_some_iff.1 hl).1
        have hl2 := hst.same _ _ hl hTl (.inr hl0)
        have hd2 := hst.same _ _ hd hTd (.inr (by omega))
        have sP : ∀ T, StabN (Bk w.heap.size T) W2 (W2.putObj (w.heap.size + 1) (.loop { rec .ready none with state := .exhausted })) := fun T => StabN.put _ _ (.inr (.inr rfl))
        refine ⟨none, _, by have := run_endLoop (P := P) hl2 (by rw [hrec]; simp); rw [hrec] at this; exact this, ?_⟩
        have sP' := sP T'
        rw [hrec] at sP'
        have sF := sP (fun _ => False)
        rw [hrec] at sF
        exact hdone _ T' _ (hI _ _ _ _ _ hA' hA' (hI _ _ _ _ _ hA hA' hi hw0 hT') sP' (fun b hb => .inl hb)) (hFin _ _ _ _ _ hf sF) rfl ((World.putObj_heap_other (by omega)).trans hd2)
      · have hl0 : w.heap.size + 1 < W0.heap.size := (Array.getElem?_eq_some_iff.1 hl).1
        have hl2 := hst.same _ _ hl hTl (.inr hl0)
        have hd2 := hst.same _ _ hd hTd (.inr (by omega))
        have sP : ∀ T, StabN (Bk w.heap.size T) W2 (W2.putObj (w.heap.size + 1) (.loop { rec .done (some c) with state := .exhausted })) := fun T => StabN.put _ _ (.inr (.inr rfl))
        refine ⟨some c, _, by have := run_endLoop (P := P) hl2 (by rw [hrec]; simp); rw [hrec] at this; exact this, ?_⟩
        have sP' := sP T'
        rw [hrec] at sP'
        have sF := sP (fun _ => False)
        rw [hrec] at sF
        exact wpIn_wide.2 (hstop _ c k T' _ hk (hIx _ _ _ _ _ _ hA' hA' (hIx _ _ _ _ _ _ hA hA' hi hw0 hT') sP' (fun b hb => .inl hb)) (hFin _ _ _ _ _ hf sF) rfl ((World.putObj_heap_other (by omega)).trans hd2))

end Go.Proofs.YtgdlpgakhhebeaaGreatDoor
end
section
set_option linter.unusedVariables false
set_option linter.unusedSimpArgs false
namespace Go.Proofs.YtgdlpgakhhebeaaGreatDoor
open Go.RowKit Go.Proofs.YtgdlpgakhhebeaaGreatDoorW.PrintWords Go.Proofs.YtgdlpgakhhebeaaGreatDoorW.PrintMore
attribute [local go_sem] Oper.semAt_some

theorem bcheck_call (m : Ms) (v : Int) (hv : v = 1 ∨ v = 2) (w : World) (Ap : Option Addr) (cp : Nat) (Ac : Option Addr) (cc : Nat) (h : MsR w m Ap cp Ac cc) (hm : Fit m) :
    Calls Tryz.prog 96 #[mV m Ap cp Ac cc, .int .i64 v] w fun e w' => e = .returned (.int .i64 (chk m)) ∧ Below w.heap.size w w' := by
  have bA : Below w.heap.size w (w.alloc (.cells (m.cs Ap cp Ac cc) 69)) := (Below.refl _ w).alloc (Nat.le_refl _) _
  have HC := Lib.hid (And.intro (mcheck_call m _ Ap cp Ac cc (h.below bA) hm) bA)
  generalize chk m = R at *
  clear h hm bA
  unfold mV Ms.cs
  rcases hv with rfl | rfl
  all_goals (
    go_enter Tryz.func96, Tryz.ntmps96
    go_wp2_with (fail)
    refine HC.out.1.mono ?_
    rintro e w2 ⟨rfl, hb⟩
    have HB := Lib.hid (HC.out.2.trans (hb.mono HC.out.2.size))
    clear hb HC
    go_wp2_with (fail)
    exact bodyPost_ret (v := .int .i64 R) (by simp [results, Tryz.results96, go_sem]) rfl ⟨rfl, HB.out⟩)
theorem partsOf_call (m : Ms) (v : Int) (w : World) (Ap : Option Addr) (cp : Nat) (Ac : Option Addr) (cc : Nat) : Calls Tryz.prog 57 #[mV m Ap cp Ac cc, .int .i64 v] w fun e w' => e = .returned (.func (.func 95) #[] #[.pointer (some ⟨w.heap.size, 0, none⟩), .pointer (some ⟨w.heap.size + 1, 0, none⟩)]) ∧ (w.alloc (.cells (m.cs Ap cp Ac cc) 69)).alloc (.cells #[.int .i64 v] 3) = w' := by
  unfold mV Ms.cs
  go_enter Tryz.func57, Tryz.ntmps57
  go_wp2
  go_ret
  exact ⟨rfl, rfl⟩
section
variable {F : Fence} {n : Nat} {P : Program} {Q : Exit → Act → World → Prop}
theorem wpIn_yield {o : Oper} {a : Act} {K : Act → World → Prop} {w : World} {l : Nat} {fn : FuncId} {tmps : Array Value} {assign body : Code} (hF : ∀ f, F.fn f) (hd : F.depth.isSome = false) (hnd : ∀ c, o.op ≠ .defer c) (hr : (execOp a.eval o).run P w = .ok (.round l fn tmps assign body) w)
    (h : RoundIn F (n - 1) P l fn tmps assign body w fun e w' => ∃ v, e = .returned v ∧ K (a.put o.dst v) w') : o.wpIn F n P a w K Q := by
  refine ⟨fun f _ => hF f, ?_⟩
  rw [Oper.semAt_plain F _ _ hnd, hr]
  exact ⟨fun h => (by rw [hd] at h; cases h), h.mono (fun e w' ⟨v, he, hk⟩ => by subst he; exact hk)⟩
end
def PrtQ (m : Ms) (L : List P.S150) (k : Nat) (vs : Array Value) (T : Nat → Prop) (B : Nat) (W : World) : Prop := ∃ f A c, L[k]? = some f ∧ vs = #[.string f.f0, .slice A (prt m f).length c] ∧ (prt m f).length ≤ c ∧ Kd.C (Kd.int .u8) W A (prt m f).length (prt m f)
/-- Between two rounds: By the box of yield, Bk the captured boxes of the inner iterator, D the loop's own blocks. -/
def ParI (R : Nat → Prop) (By Bk D l' : Nat) (J : Nat → (Nat → Prop) → World → Prop) (W : World) (j : Nat) (T : Nat → Prop) (X : World) : Prop :=
  ∃ (To : Nat → Prop) (W0 : World), J j To W0 ∧ StabN To W0 X ∧ (∀ b, T b → D ≤ b ∧ (To b ∨ W0.heap.size ≤ b)) ∧ (∀ b, b = By ∨ b = Bk ∨ b = Bk + 1 ∨ b = D ∨ b = D + 1 → To b ∨ W0.heap.size ≤ b) ∧ Keep R W X ∧ X.heap[By]? = some (.cells #[.func (.yield l') #[] #[]] 225) ∧ D ≤ X.heap.size ∧ ∀ b, To b → b < X.heap.size
theorem parI_step {R : Nat → Prop} {By z l' : Nat} {J : Nat → (Nat → Prop) → World → Prop} {W : World} {j : Nat} {T T' : Nat → Prop} {X X' : World} (hR : ∀ b, R b → b < By) (hz : By < z) (hi : ParI R By z (z + 2) l' J W j T X) (hs : StabN (Bk (z + 2) T) X X') (hT : ∀ b, T' b → T b ∨ X.heap.size ≤ b) : ParI R By z (z + 2) l' J W j T' X' := by
  obtain ⟨To, W0, hJ0, hs0, hTd, hbk, hkR, hyb, hDX, hTl⟩ := hi
  have hB : ∀ b, Bk (z + 2) T b → z + 2 ≤ b ∧ (To b ∨ W0.heap.size ≤ b) := fun b hb => by
    rcases hb with hb | rfl | rfl
    · exact hTd b hb
    · exact ⟨Nat.le_refl _, hbk _ (.inr (.inr (.inr (.inl rfl))))⟩
    · exact ⟨by omega, hbk _ (.inr (.inr (.inr (.inr rfl))))⟩
  refine ⟨To, W0, hJ0, StabN.trans hs0 hs (fun b hb => (hB b hb).2), fun b hb => ?_, hbk, hkR.trans (StabN.keep hs (fun b hb _ h => by have := hR b hb; have := (hB b h).1; omega)), hs.same _ _ hyb (fun h => by have := (hB _ h).1; omega) (.inl rfl), Nat.le_trans hDX hs.size, fun b hb => Nat.lt_of_lt_of_le (hTl b hb) hs.size⟩
  rcases hT b hb with h | h
  · exact hTd b h
  · exact ⟨by omega, .inr (by have := hs0.size; omega)⟩
set_option maxRecDepth 100000 in
set_option maxHeartbeats 4000000 in
theorem parts2 (w0 w : World) (Bm Bv : Nat) (m : Ms) (v : Int) (hv : v = 1 ∨ v = 2) (hk : chk m = 0) (Ap : Option Addr) (cp : Nat) (Ac : Option Addr) (cc : Nat) (h : MsR w0 m Ap cp Ac cc) (hm : Fit m) (hb : Below w0.heap.size w0 w) (hM : w.heap[Bm]? = some (.cells (m.cs Ap cp Ac cc) 69)) (hV : Boxed w Bv 3 (.int .i64 v)) :
    Iter Tryz.prog 95 #[.pointer (some ⟨Bm, 0, none⟩), .pointer (some ⟨Bv, 0, none⟩)] (vfl m.k v).length (fun _ => True) (fun b => b < w0.heap.size ∨ b = Bm ∨ b = Bv) (fun _ => False) (PrtQ m (vfl m.k v)) (fun _ _ _ _ => True) w := by
  intro l' J Jx W hW hY h0
  have hMW : W.heap[Bm]? = some (.cells (m.cs Ap cp Ac cc) 69) := hW.same _ _ hM (.inl (.inr (.inl rfl)))
  have hVW : Boxed W Bv 3 (.int .i64 v) := hW.same _ _ hV (.inl (.inr (.inr rfl)))
  have hbW : Below w0.heap.size w0 W := hb.trans ((hW.mono (fun b h => .inl (.inl h))).to_below hb.size)
  have HY := Lib.hid hY
  have bY : Below W.heap.size W (W.alloc (.cells #[.func (.yield l') #[] #[]] 225)) := (Below.refl _ W).alloc (Nat.le_refl _) _
  have hM1 := (bY.block Bm (Array.getElem?_eq_some_iff.1 hMW).1).trans hMW
  have hV1 : Boxed (W.alloc (.cells #[.func (.yield l') #[] #[]] 225)) Bv 3 (.int .i64 v) := (bY.block Bv hVW.lt).trans hVW
  have HC := Lib.hid (bcheck_call m v hv (W.alloc (.cells #[.func (.yield l') #[] #[]] 225)) Ap cp Ac cc ((h.below hbW).below bY) hm)
  rw [hk] at HC
  have HJ := Lib.hid (And.intro h0 (And.intro hMW (And.intro hVW (And.intro hbW (And.intro h (And.intro hm (And.intro hk (And.intro hM1 (And.intro hV1 bY)))))))))
  have q0 : (W.alloc (.cells #[.func (.yield l') #[] #[]] 225)).cell? ⟨Bm, 0, none⟩ = some (.int .i64 m.k) := cell_at hM1 rfl
  have q1 : (W.alloc (.cells #[.func (.yield l') #[] #[]] 225)).cell? ⟨Bm, 1, none⟩ = some (.int .i64 m.n0) := cell_at hM1 rfl
  have q2 : (W.alloc (.cells #[.func (.yield l') #[] #[]] 225)).cell? ⟨Bm, 2, none⟩ = some (.int .i64 m.n1) := cell_at hM1 rfl
  have q3 : (W.alloc (.cells #[.func (.yield l') #[] #[]] 225)).cell? ⟨Bm, 3, none⟩ = some (.int .i64 m.n2) := cell_at hM1 rfl
  have q4 : (W.alloc (.cells #[.func (.yield l') #[] #[]] 225)).cell? ⟨Bm, 4, none⟩ = some (.int .i64 m.n3) := cell_at hM1 rfl
  have q5 : (W.alloc (.cells #[.func (.yield l') #[] #[]] 225)).cell? ⟨Bm, 5, none⟩ = some (.int .i64 m.n4) := cell_at hM1 rfl
  have q6 : (W.alloc (.cells #[.func (.yield l') #[] #[]] 225)).cell? ⟨Bm, 6, none⟩ = some (.int .i64 m.n5) := cell_at hM1 rfl
  have q7 : (W.alloc (.cells #[.func (.yield l') #[] #[]] 225)).cell? ⟨Bm, 7, none⟩ = some (.slice Ap m.path.length cp) := cell_at hM1 rfl
  have q8 : (W.alloc (.cells #[.func (.yield l') #[] #[]] 225)).cell? ⟨Bm, 8, none⟩ = some (.slice Ac m.cells.length cc) := cell_at hM1 rfl
  have q9 : (W.alloc (.cells #[.func (.yield l') #[] #[]] 225)).cell? ⟨Bm, 9, none⟩ = some (.string m.text) := cell_at hM1 rfl
  have q10 : (W.alloc (.cells #[.func (.yield l') #[] #[]] 225)).cell? ⟨Bm, 10, none⟩ = some (.string m.tag) := cell_at hM1 rfl
  have cV := hV1.cell
  clear hY h0 hM hV hMW hVW hbW h hm hk hM1 hV1 bY hb
  obtain ⟨N, hN⟩ : ∃ N, (vfl m.k v).length = N := ⟨_, rfl⟩
  have HN := Lib.hid hN
  rw [hN] at HY ⊢
  clear hN
  show Calls Tryz.prog 95 #[.func (.yield l') #[] #[], .pointer (some ⟨Bm, 0, none⟩), .pointer (some ⟨Bv, 0, none⟩)] W _
  refine (callsIn_wide (n := 5)).1 (callsIn_of_wp_marks Tryz.func95 rfl trivial ?_ rfl)
  simp only [Tryz.ntmps95, List.size_toArray, List.length_cons, List.length_nil, Nat.reduceAdd, Nat.reduceSub, Array.replicate_succ, Array.replicate_zero, List.push_toArray, List.append_toArray, List.nil_append, List.cons_append]
  refine wpIn_wide.2 ?_
  go_wp2_with (fail)
  go_step3
  go_wp2_with (fail)
  refine HC.out.mono ?_
  rintro e w1 ⟨rfl, hb1⟩
  obtain ⟨h0, hMW, hVW, hbW, h, hm, hk, hM1, hV1, bY⟩ := HJ.out
  have hM2 := (hb1.block Bm (Array.getElem?_eq_some_iff.1 hM1).1).trans hM1
  have hV2 : Boxed w1 Bv 3 (.int .i64 v) := (hb1.block Bv hV1.lt).trans hV1
  have hY2 := (hb1.block W.heap.size (by simp)).trans (World.alloc_heap_new W (.cells #[.func (.yield l') #[] #[]] 225))
  have hB2 := bY.trans (hb1.mono bY.size)
  have hz : W.heap.size < w1.heap.size := (Array.getElem?_eq_some_iff.1 hY2).1
  have H2 := Lib.hid (And.intro hM2 (And.intro hV2 (And.intro hY2 (And.intro hB2 hz))))
  have p0 : w1.cell? ⟨Bm, 0, none⟩ = some (.int .i64 m.k) := cell_at hM2 rfl
  have cV2 := hV2.cell
  clear h0 hMW hVW hbW h hm hk hM1 hV1 bY hM2 hV2 hY2 hB2 hz hb1 q0 q1 q2 q3 q4 q5 q6 q7 q8 q9 q10 cV
  go_wp2_with (fail)
  go_step3
  go_wp2_with (fail)
  refine (all_call _ _ _).mono ?_
  rintro e wY ⟨rfl, rfl⟩
  go_wp2_with (fail)
  obtain ⟨hM2, hV2, hY2, hB2, hz⟩ := H2.out
  obtain ⟨z, hzz⟩ : ∃ z, w1.heap.size = z := ⟨_, rfl⟩
  obtain ⟨By, hBy⟩ : ∃ By, W.heap.size = By := ⟨_, rfl⟩
  obtain ⟨Y, hY⟩ : ∃ Y, (w1.alloc (.cells #[.int .i64 m.k] 3)).alloc (.cells #[.int .i64 v] 3) = Y := ⟨_, rfl⟩
  have hsY : Y.heap.size = z + 2 := by rw [← hY, ← hzz]; simp
  have hbY : Below w1.heap.size w1 Y := by rw [← hY]; exact ((Below.refl _ w1).alloc (Nat.le_refl _) _).alloc (by simp) _
  have bK : Boxed Y z 3 (.int .i64 m.k) := by rw [← hY, ← hzz]; exact al2_a w1 _ _
  have bV : Boxed Y (z + 1) 3 (.int .i64 v) := by rw [← hY, ← hzz]; exact al2_b w1 _ _
  have hM3 := (hbY.block Bm (Array.getElem?_eq_some_iff.1 hM2).1).trans hM2
  have hY3 := (hbY.block W.heap.size (Array.getElem?_eq_some_iff.1 hY2).1).trans hY2
  have hbw : Below W.heap.size W Y := hB2.trans (hbY.mono hB2.size)
  rw [hY, hzz, hBy]
  rw [hBy] at hz hY3
  rw [hzz] at hz
  have hRW : ∀ b, (b < w0.heap.size ∨ b = Bm ∨ b = Bv) → b < By := fun b hb => by
    rw [← hBy]
    rcases hb with hb | rfl | rfl
    · have := HJ.out.2.2.2.1.size; omega
    · exact (Array.getElem?_eq_some_iff.1 HJ.out.2.1).1
    · exact HJ.out.2.2.1.lt
  have HR := Lib.hid (And.intro hRW (And.intro hz (And.intro hBy hsY)))
  have HS := Lib.hid (And.intro hM3 (And.intro hY3 hbw))
  clear hY hzz hbY hM2 hV2 hY2 hB2 hM3 hY3 hbw hRW hBy H2 p0 cV2 hz
  refine wp_rangeN (gf := 139) (lb := #[.pointer (some ⟨z, 0, none⟩), .pointer (some ⟨z + 1, 0, none⟩)]) rfl (enters_of Tryz.func139 (by kernel_rfl) rfl)
    (all1 Y z (z + 1) m.k v bK bV) trivial (fun b hb => by rcases hb with hb | hb <;> omega) (fun b hb => hb.elim) (fun k vs T B W h => by obtain ⟨_, _, rfl⟩ := h; rfl) (fun _ _ _ _ _ _ _ => trivial)
    (fun j T X => ParI (fun b => b < w0.heap.size ∨ b = Bm ∨ b = Bv) By z (z + 2) l' J W j T X) (fun c j T X => c = .exit 0 ∧ ParI (fun b => b < w0.heap.size ∨ b = Bm ∨ b = Bv) By z (z + 2) l' Jx W j T X) ?hI ?hIx ?h0 ?round ?done ?stop
  case hI =>
    intro j T T' X X' _ _ hi hs hT
    rw [hsY] at hs
    exact parI_step HR.out.1 HR.out.2.1 hi hs hT
  case hIx =>
    rintro c j T T' X X' _ _ ⟨hc, hi⟩ hs hT
    rw [hsY] at hs
    exact ⟨hc, parI_step HR.out.1 HR.out.2.1 hi hs hT⟩
  case h0 => exact ⟨fun _ => False, W, HJ.out.1, Stab.of_below HS.out.2.2, fun b h => h.elim, fun b hb => .inr (by have := HR.out.2.1; have := HR.out.2.2.1; omega), Keep.of_below HS.out.2.2, HS.out.2.1, by omega, fun b h => h.elim⟩
  case round =>
    rintro lp nn j T T1 Wi X vs hj - - ⟨To, W0, hJ0, hs0, hTd, hbk, hkR, hyb, hDX, hTl⟩ hT1 hst ⟨f, hseg, rfl⟩ hRb hlX hT1D hT1l
    rw [hsY] at hlX hT1D hT1l ⊢
    have hlp := hRb
    have hjN : j < N := by rw [← HN.out]; exact hj
    have hs1 : StabN To W0 X := StabN.trans hs0 hst (fun b hb => (hTd b hb).2)
    have hyX := hst.same _ _ hyb (fun h => by have := (hTd _ h).1; have := HR.out.2.1; omega) (.inl rfl)
    have hkX : Keep (fun b => b < w0.heap.size ∨ b = Bm ∨ b = Bv) W X := hkR.trans (StabN.keep hst (fun b hb _ h => by have := HR.out.1 b hb; have := HR.out.2.1; have := (hTd b h).1; omega))
    have hT1d : ∀ b, T1 b → z + 2 ≤ b ∧ (To b ∨ W0.heap.size ≤ b) ∧ b < X.heap.size := fun b hb => by
      refine ⟨?_, ?_, hRb b (.inr hb)⟩
      · rcases hT1 b hb with h | h
        · exact (hTd b h).1
        · omega
      · rcases hT1 b hb with h | h
        · exact (hTd b h).2
        · exact .inr (Nat.le_trans hs0.size h)
    have hTlX : ∀ b, To b → b < X.heap.size := fun b hb => Nat.lt_of_lt_of_le (hTl b hb) hst.size
    have HTL := Lib.hid hTlX
    have H1 := Lib.hid (And.intro hJ0 (And.intro hs1 (And.intro hbk (And.intro hkX (And.intro hyX (And.intro hT1d (And.intro hjN hseg)))))))
    clear hTl hTlX hJ0 hs0 hTd hbk hkR hyb hT1 hst hRb hs1 hkX hyX hT1d hjN hseg hj hT1D hT1l hlp
    unfold fV
    gi_wp2
    have bF : Below X.heap.size X (X.alloc (.cells (fC f) 150)) := (Below.refl _ X).alloc (Nat.le_refl _) _
    refine ⟨bF, fun W2 hs _ => ?_⟩
    obtain ⟨hJ0, hs1, hbk, hkX, hyX, hT1d, hjN, hseg⟩ := H1.out
    have hBD : ∀ b, Bk (z + 2) (fun _ => False) b → b = z + 2 ∨ b = z + 2 + 1 := fun b hb => hb.elim (fun h => h.elim) id
    have y2 := hs.same _ _ ((bF.block By (Array.getElem?_eq_some_iff.1 hyX).1).trans hyX) (fun h => by have := hBD _ h; have := HR.out.2.1; omega) (.inl rfl)
    have f2 := hs.same _ _ (World.alloc_heap_new X (.cells (fC f) 150)) (fun h => by have := hBD _ h; omega) (.inl rfl)
    have k2 : Keep (fun b => b < w0.heap.size ∨ b = Bm ∨ b = Bv) W W2 := (hkX.trans (Keep.of_below bF)).trans (StabN.keep hs (fun b hb _ h => by have := HR.out.1 b hb; have := HR.out.2.1; have := hBD _ h; omega))
    have m2 := k2.same _ _ HJ.out.2.1 (.inr (.inl rfl))
    have s2 : StabN To W0 W2 := StabN.trans (StabN.trans hs1 (Stab.of_below (T := fun _ => False) bF) (fun _ h => h.elim)) hs (fun b hb => hbk b (by have := hBD b hb; omega))
    have hXW2 : X.heap.size < W2.heap.size := (Array.getElem?_eq_some_iff.1 f2).1
    have b2 : Below w0.heap.size w0 W2 := HJ.out.2.2.2.1.trans ((k2.mono (fun b h => .inl h)).to_below HJ.out.2.2.2.1.size)
    have hMs : MsR W2 m Ap cp Ac cc := HJ.out.2.2.2.2.1.below b2
    have hfm : f ∈ vfl m.k v := List.mem_of_getElem? hseg
    have hok := flds_ok m.k f (List.mem_filter.1 hfm).1
    have hw0 := (chk_zero HJ.out.2.2.2.2.2.2.1).2.1 f (List.mem_filter.1 hfm).1
    have H2 := Lib.hid (And.intro s2 (And.intro k2 (And.intro hMs (And.intro hok hw0))))
    have HC2 := Lib.hid (And.intro y2 (And.intro f2 m2))
    clear hs hJ0 hs1 hbk hkX hyX hT1d hseg hBD y2 f2 m2 k2 s2 b2 hMs hfm hok hw0
    gi_wp2_with (fail)
    refine wpIn_region_hoist [(0, true), (1, true), (2, true), (3, true), (4, true), (5, false), (6, false), (7, true)] (fun w' => w'.heap[By]? = some (.cells #[.func (.yield l') #[] #[]] 225) ∧ w'.heap[X.heap.size]? = some (.cells (fC f) 150) ∧ w'.heap[Bm]? = some (.cells (m.cs Ap cp Ac cc) 69)) (fun _ => trivial) (by kernel_rfl) (by kernel_rfl) ?_
    iterate 5 (apply wpH_readL _ rfl rfl rfl; (· (intro w' hw'; obtain ⟨hw1, hw2, hw3⟩ := hw'; have y0 : w'.cell? ⟨By, 0, none⟩ = some (.func (.yield l') #[] #[]) := cell_at hw1 rfl; have t0 : w'.cell? ⟨X.heap.size, 0, none⟩ = some (.string f.f0) := cell_at hw2 rfl; have t1 : w'.cell? ⟨X.heap.size, 1, none⟩ = some (.int .i64 f.f1) := cell_at hw2 rfl; have t2 : w'.cell? ⟨X.heap.size, 2, none⟩ = some (.int .i64 f.f2) := cell_at hw2 rfl; have t3 : w'.cell? ⟨X.heap.size, 3, none⟩ = some (.int .i64 f.f3) := cell_at hw2 rfl; have t4 : w'.cell? ⟨X.heap.size, 4, none⟩ = some (.int .i64 f.f4) := cell_at hw2 rfl; have t5 : w'.cell? ⟨X.heap.size, 5, none⟩ = some (.int .i64 f.f5) := cell_at hw2 rfl; have t6 : w'.cell? ⟨X.heap.size, 6, none⟩ = some (.int .i64 f.f6) := cell_at hw2 rfl; have q0 : w'.cell? ⟨Bm, 0, none⟩ = some (.int .i64 m.k) := cell_at hw3 rfl; have q1 : w'.cell? ⟨Bm, 1, none⟩ = some (.int .i64 m.n0) := cell_at hw3 rfl; have q2 : w'.cell? ⟨Bm, 2, none⟩ = some (.int .i64 m.n1) := cell_at hw3 rfl; have q3 : w'.cell? ⟨Bm, 3, none⟩ = some (.int .i64 m.n2) := cell_at hw3 rfl; have q4 : w'.cell? ⟨Bm, 4, none⟩ = some (.int .i64 m.n3) := cell_at hw3 rfl; have q5 : w'.cell? ⟨Bm, 5, none⟩ = some (.int .i64 m.n4) := cell_at hw3 rfl; have q6 : w'.cell? ⟨Bm, 6, none⟩ = some (.int .i64 m.n5) := cell_at hw3 rfl; have q7 : w'.cell? ⟨Bm, 7, none⟩ = some (.slice Ap m.path.length cp) := cell_at hw3 rfl; have q8 : w'.cell? ⟨Bm, 8, none⟩ = some (.slice Ac m.cells.length cc) := cell_at hw3 rfl; have q9 : w'.cell? ⟨Bm, 9, none⟩ = some (.string m.text) := cell_at hw3 rfl; have q10 : w'.cell? ⟨Bm, 10, none⟩ = some (.string m.tag) := cell_at hw3 rfl; clear hw1 hw2 hw3; go_simp; exact ⟨rfl, rfl⟩)); simp only [List.set_cons_zero, List.set_cons_succ])
    obtain ⟨s2, k2, hMs, hok, hw0⟩ := H2.out
    apply wpH_callL (f := 98) (args := #[.agg (m.cs Ap cp Ac cc), .agg (fC f)]) (fun _ => trivial) rfl rfl rfl (show _ ∧ _ ∧ _ from HC2.out) rfl (fun c h => by cases h) (by kernel_rfl)
    have bd : Below W2.heap.size W2 W2.drew := (Below.refl _ _).drew
    refine ((callsIn_wide.2 ((part_call m f hok hw0 W2.drew Ap cp Ac cc (hMs.below bd) HJ.out.2.2.2.2.2.1).mono ?_)) : CallsIn Fence.wide _ _ _ _ _ _)
    rintro e W5 ⟨v5, rfl, hR5, hb5⟩
    refine ⟨_, rfl, ?_⟩
    simp only [List.set_cons_zero, List.set_cons_succ]
    obtain ⟨A5, c5, rfl, hc5, hC5⟩ := Kd.R_reads hR5
    have y5 := (hb5.block By (Array.getElem?_eq_some_iff.1 HC2.out.1).1).trans HC2.out.1
    have f5 := (hb5.block X.heap.size (Array.getElem?_eq_some_iff.1 HC2.out.2.1).1).trans HC2.out.2.1
    have m5 := (hb5.block Bm (Array.getElem?_eq_some_iff.1 HC2.out.2.2).1).trans HC2.out.2.2
    have b5 : Below W2.heap.size W2 W5 := bd.trans hb5
    have s5 : StabN To W0 W5 := StabN.trans s2 (Stab.of_below (T := fun _ => False) b5) (fun _ h => h.elim)
    have k5 := k2.trans (Keep.of_below b5 (R := fun b => b < w0.heap.size ∨ b = Bm ∨ b = Bv))
    obtain ⟨hJ0, hs1, hbk, hkX, hyX, hT1d, hjN, hseg⟩ := H1.out
    have hz2 : X.heap.size < W2.heap.size := (Array.getElem?_eq_some_iff.1 HC2.out.2.1).1
    have hlX5 : z + 2 + 1 < W5.heap.size := by have := b5.size; omega
    have hXW : X.heap.size < W5.heap.size := by have := b5.size; omega
    have hBylt : By < W5.heap.size := (Array.getElem?_eq_some_iff.1 y5).1
    obtain ⟨T5, hT5⟩ : ∃ T5 : Nat → Prop, T5 = fun b => To b ∨ (W0.heap.size ≤ b ∧ b < W5.heap.size) := ⟨_, rfl⟩
    have hT5i : ∀ b, (To b ∨ W0.heap.size ≤ b) → b < W5.heap.size → T5 b := fun b h h2 => by
      rw [hT5]
      exact h.elim .inl (fun h => .inr ⟨h, h2⟩)
    obtain ⟨fn, tmps, assign, body, hy, hRd⟩ := HY.out j To T5 W0 W5 #[.string f.f0, .slice A5 (prt m f).length c5] hjN hJ0 trivial (fun b hb => by rw [hT5] at hb; exact hb.elim .inl (fun h => .inr h.1)) (fun b hb => by rw [hT5] at hb; exact hb.elim (fun h => by have := HTL.out b h; omega) (fun h => h.2)) s5 ⟨f, A5, c5, hseg, rfl, hc5, hC5⟩
    have hR : ∀ W3, Keep (fun b => (b < w0.heap.size ∨ b = Bm ∨ b = Bv) ∨ T5 b) W5 W3 → (W3.heap[By]? = some (.cells #[.func (.yield l') #[] #[]] 225) ∧ W3.heap[X.heap.size]? = some (.cells (fC f) 150) ∧ W3.heap[Bm]? = some (.cells (m.cs Ap cp Ac cc) 69)) ∧ Keep (fun b => (b = z ∨ b = z + 1) ∨ T1 b ∨ b = z + 2 ∨ b = z + 2 + 1) W2 W3 ∧ Keep (fun b => b < w0.heap.size ∨ b = Bm ∨ b = Bv) W W3 ∧ (∀ b, T1 b → z + 2 ≤ b ∧ (T5 b ∨ W3.heap.size ≤ b)) ∧ (∀ b, b = By ∨ b = z ∨ b = z + 1 ∨ b = z + 2 ∨ b = z + 2 + 1 → T5 b ∨ W3.heap.size ≤ b) ∧ (∀ b, T5 b → b < W3.heap.size) := by
      intro W3 hk3
      have h5l : ∀ b, (b = By ∨ b = z ∨ b = z + 1 ∨ b = z + 2 ∨ b = z + 2 + 1) → T5 b := fun b hb => hT5i b (hbk b hb) (by omega)
      have h5T : ∀ b, T1 b → T5 b := fun b hb => hT5i b (hT1d b hb).2.1 (by have := (hT1d b hb).2.2; omega)
      refine ⟨⟨hk3.same _ _ y5 (.inr (h5l _ (.inl rfl))), hk3.same _ _ f5 (.inr (hT5i _ (.inr hs1.size) hXW)), hk3.same _ _ m5 (.inl (.inr (.inl rfl)))⟩, (Keep.of_below b5).trans (hk3.mono (fun b hb => .inr ?_)), k5.trans (hk3.mono (fun b h => .inl h)), fun b hb => ⟨(hT1d b hb).1, .inl (h5T b hb)⟩, fun b hb => .inl (h5l b hb), fun b hb => ?_⟩
      · rcases hb with (hb | hb) | hb | hb | hb
        · exact h5l b (.inr (.inl hb))
        · exact h5l b (.inr (.inr (.inl hb)))
        · exact h5T b hb
        · exact h5l b (.inr (.inr (.inr (.inl hb))))
        · exact h5l b (.inr (.inr (.inr (.inr hb))))
      · rw [hT5] at hb
        have := hk3.size
        exact hb.elim (fun h => by have := HTL.out b h; omega) (fun h => by omega)
    have HRR := Lib.hid (And.intro hR hRd)
    have hC5' : W5.heap[By]? = some (.cells #[.func (.yield l') #[] #[]] 225) ∧ W5.heap[X.heap.size]? = some (.cells (fC f) 150) ∧ W5.heap[Bm]? = some (.cells (m.cs Ap cp Ac cc) 69) := ⟨y5, f5, m5⟩
    clear hR hRd hT5i hT5 s5 k5 b5 y5 f5 m5 hJ0 hs1 hbk hkX hyX hT1d hjN hseg s2 k2 hMs hok hw0 bd hR5 hb5
    refine wpH_do rfl hC5' rfl (fun K hK => wpIn_yield (fun _ => trivial) rfl (fun c h => by cases h) (((by kernel_rfl : _ = (Instr.yield l' #[.string f.f0, .slice A5 (prt m f).length c5]).run Tryz.prog W5)).trans hy) ?_)
    refine ((HRR.out.2 _).mono ?_ : RoundIn Fence.wide _ _ _ _ _ _ _ _ _)
    rintro e W3 (⟨rfl, hJ3, hk3⟩ | ⟨rfl, hJ3, hk3⟩)
    · obtain ⟨r1, r2, r3, r4, r5, r6⟩ := HRR.out.1 W3 hk3
      refine ⟨_, rfl, hK _ _ ?_⟩
      have hzW : z + 2 ≤ W3.heap.size := by have := hk3.size; omega
      have HE := Lib.hid (And.intro hJ3 (And.intro r1 (And.intro r2 (And.intro r3 (And.intro r4 (And.intro r5 r6))))))
      clear hJ3 hk3 r2 r3 r4 r5 r6 hy HRR hK hC5' HC2 H1 H2
      apply wpH_read _ rfl rfl
      · intro w' hw'; go_simp; exact ⟨rfl, rfl⟩
      refine wpH_end r1 ?_
      clear r1
      go_simp
      gi_wp2_with (fail)
      exact ⟨HE.out.2.2.1, T5, W3, HE.out.1, Stab.refl _ _ _, HE.out.2.2.2.2.1, HE.out.2.2.2.2.2.1, HE.out.2.2.2.1, HE.out.2.1.1, hzW, HE.out.2.2.2.2.2.2⟩
    · obtain ⟨r1, r2, r3, r4, r5, r6⟩ := HRR.out.1 W3 hk3
      refine ⟨_, rfl, hK _ _ ?_⟩
      have hzW : z + 2 ≤ W3.heap.size := by have := hk3.size; omega
      have HE := Lib.hid (And.intro hJ3 (And.intro r1 (And.intro r2 (And.intro r3 (And.intro r4 (And.intro r5 r6))))))
      clear hJ3 hk3 r2 r3 r4 r5 r6 hy HRR hK hC5' HC2 H1 H2
      apply wpH_read _ rfl rfl
      · intro w' hw'; go_simp; exact ⟨rfl, rfl⟩
      refine wpH_end r1 ?_
      clear r1
      go_simp
      gi_wp2_with (fail)
      exact ⟨HE.out.2.2.1, rfl, T5, W3, HE.out.1, Stab.refl _ _ _, HE.out.2.2.2.2.1, HE.out.2.2.2.2.2.1, HE.out.2.2.2.1, HE.out.2.1.1, hzW, HE.out.2.2.2.2.2.2⟩
  case done =>
    rintro D T X ⟨To, W0, hJ0, hs0, hTd, hbk, hkR, hyb, hDX, hTl⟩ _ hD1 hD
    rw [hsY] at hD1
    obtain ⟨j, rfl⟩ : ∃ j, j = N := ⟨N, rfl⟩
    go_wp2_with (fail)
    have hsD : StabN (fun b => b = D) X (X.putObj D (.deferred none)) := StabN.put _ _ rfl
    refine marks_end (v := .tuple #[]) (by simp [results, Tryz.results95, Act.put, go_sem]) (by simp [Act.put]) hD ⟨⟨_, rfl⟩, To, To, W0, j, trivial, fun _ h => .inl h, StabN.trans hs0 hsD (fun b hb => ?_), .inl ⟨rfl, by rw [HN.out] at hJ0; exact hJ0, trivial⟩⟩
    subst hb
    exact hbk _ (.inr (.inr (.inr (.inl hD1.symm))))
  case stop =>
    rintro D c j T X hj ⟨rfl, To, W0, hJ0, hs0, hTd, hbk, hkR, hyb, hDX, hTl⟩ _ hD1 hD
    rw [hsY] at hD1
    go_wp2_with (fail)
    have hsD : StabN (fun b => b = D) X (X.putObj D (.deferred none)) := StabN.put _ _ rfl
    refine marks_end (v := .tuple #[]) (by simp [results, Tryz.results95, Act.put, go_sem]) (by simp [Act.put]) hD ⟨⟨_, rfl⟩, To, To, W0, j, trivial, fun _ h => .inl h, StabN.trans hs0 hsD (fun b hb => ?_), .inr ⟨by rw [← HN.out]; exact hj, hJ0, trivial⟩⟩
    subst hb
    exact hbk _ (.inr (.inr (.inr (.inl hD1.symm))))
end Go.Proofs.YtgdlpgakhhebeaaGreatDoor
end
