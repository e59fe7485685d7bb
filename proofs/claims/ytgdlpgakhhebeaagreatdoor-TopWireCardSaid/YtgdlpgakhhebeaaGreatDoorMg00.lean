/- Part 0 of the proof of TopWire: Iter. -/
import Derived.LoopIn
import Derived.LoopNIn
import Derived.OwnWalkIn
import Derived.RangeFuncBound
import Derived.RangeFuncCalls
import Derived.RangeFuncLeaves
import Derived.RangeFuncNested
import Derived.Shelf.Abstract
import Derived.Shelf.RegionOpen
import Derived.TacticsInMore
import Derived.WalkKit
set_option linter.unusedVariables false
namespace Go.Proofs.YtgdlpgakhhebeaaGreatDoor
open Go.RowKit

@[simp, go_sem] theorem wide_fn_eq (f : FuncId) : Fence.wide.fn f = True := rfl
@[simp, go_sem] theorem wide_depth_eq : Fence.wide.depth = none := rfl

/-- A record of a loop, or the block for its rounds' deferred calls. -/
def isBook : Obj → Bool
  | .loop _ => true
  | .deferred _ => true
  | _ => false

/-- What a step of the iterator (which may write the blocks T alone) and the loop's own book-keeping (in blocks from n on) leave. -/
structure Stab (T : Nat → Prop) (n : Nat) (W W' : World) : Prop where
  os : W'.os = W.os
  tape : W'.tape = W.tape
  output : W'.output = W.output
  size : W.heap.size ≤ W'.heap.size
  same : ∀ (k : Nat) (o : Obj), W.heap[k]? = some o → ¬ T k → (isBook o = false ∨ k < n) → W'.heap[k]? = some o

theorem Stab.refl (T : Nat → Prop) (n : Nat) (W : World) : Stab T n W W := ⟨rfl, rfl, rfl, Nat.le_refl _, fun _ _ h _ _ => h⟩
theorem Stab.trans {T T' : Nat → Prop} {n : Nat} {A B C : World} (h : Stab T n A B) (k : Stab T' n B C) (hT : ∀ b, T' b → T b ∨ A.heap.size ≤ b) : Stab T n A C :=
  ⟨k.os.trans h.os, k.tape.trans h.tape, k.output.trans h.output, Nat.le_trans h.size k.size, fun b o hb hn hk => by
    have hlt : b < A.heap.size := (Array.getElem?_eq_some_iff.1 hb).1
    refine k.same b o (h.same b o hb hn hk) (fun ht => ?_) hk
    rcases hT b ht with h1 | h1
    · exact hn h1
    · omega⟩
theorem Stab.block {T : Nat → Prop} {n : Nat} {W W' : World} (h : Stab T n W W') {b : Nat} {o : Obj} (hb : W.heap[b]? = some o) (hT : ¬ T b) (hk : isBook o = false) : W'.heap[b]? = some o := h.same b o hb hT (.inl hk)
theorem Stab.cell {T : Nat → Prop} {n : Nat} {W W' : World} (h : Stab T n W W') {p : Addr} {v : Value} (hc : W.cell? p = some v) (hT : ¬ T p.block) : W'.cell? p = some v := by
  obtain ⟨o, ho, hcs⟩ := cells_of_cell hc
  have : W'.heap[p.block]? = W.heap[p.block]? := by rw [ho]; exact h.block ho hT (by cases o <;> simp_all [isBook, Obj.isCells])
  exact (World.cell?_of_block this).trans hc
/-- What lay below n, but the iterator's, lies as it lay. -/
theorem Stab.below {T : Nat → Prop} {n m : Nat} {W0 W W' : World} (h : Stab T n W W') (hb : Below m W0 W) (hm : m ≤ n) (hmW : m ≤ W.heap.size) (hT : ∀ b, b < m → ¬ T b) : Below m W0 W' :=
  hb.trans ⟨h.os, h.tape, h.output, h.size, fun k hk => by
    cases ho : W.heap[k]? with
    | none => exact absurd (Array.getElem?_eq_none_iff.1 ho) (by omega)
    | some o => exact h.same k o ho (hT k hk) (.inr (Nat.lt_of_lt_of_le hk hm))⟩
theorem Stab.of_below {n : Nat} {T : Nat → Prop} {W W' : World} (h : Below W.heap.size W W') : Stab T n W W' :=
  ⟨h.os, h.tape, h.output, h.size, fun k o hk _ _ => (h.block k (Array.getElem?_eq_some_iff.1 hk).1).trans hk⟩
theorem Stab.alloc {T : Nat → Prop} {n : Nat} (W : World) (o : Obj) : Stab T n W (W.alloc o) := Stab.of_below ((Below.refl _ W).alloc (Nat.le_refl _) o)

/-- What the loop's rounds keep for the iterator: the blocks of R. -/
structure Keep (R : Nat → Prop) (W W' : World) : Prop where
  os : W'.os = W.os
  tape : W'.tape = W.tape
  output : W'.output = W.output
  size : W.heap.size ≤ W'.heap.size
  same : ∀ (k : Nat) (o : Obj), W.heap[k]? = some o → R k → W'.heap[k]? = some o
/-- Books lie as they lay. -/
def Books (W W' : World) : Prop := ∀ (k : Nat) (o : Obj), W.heap[k]? = some o → isBook o = true → W'.heap[k]? = some o

theorem Keep.refl (R : Nat → Prop) (W : World) : Keep R W W := ⟨rfl, rfl, rfl, Nat.le_refl _, fun _ _ h _ => h⟩
theorem Keep.trans {R : Nat → Prop} {A B C : World} (h : Keep R A B) (k : Keep R B C) : Keep R A C :=
  ⟨k.os.trans h.os, k.tape.trans h.tape, k.output.trans h.output, Nat.le_trans h.size k.size, fun b o hb hr => k.same b o (h.same b o hb hr) hr⟩
theorem Keep.mono {R R' : Nat → Prop} {A B : World} (h : Keep R A B) (hR : ∀ b, R' b → R b) : Keep R' A B := ⟨h.os, h.tape, h.output, h.size, fun b o hb hr => h.same b o hb (hR b hr)⟩
theorem Keep.of_below {R : Nat → Prop} {W W' : World} (h : Below W.heap.size W W') : Keep R W W' :=
  ⟨h.os, h.tape, h.output, h.size, fun k o hk _ => (h.block k (Array.getElem?_eq_some_iff.1 hk).1).trans hk⟩
theorem Keep.below {m : Nat} {W W' : World} (h : Below m W W') : Keep (fun b => b < m) W W' := ⟨h.os, h.tape, h.output, h.size, fun k o hk hm => (h.block k hm).trans hk⟩
theorem Keep.alloc {R : Nat → Prop} (W : World) (o : Obj) : Keep R W (W.alloc o) := Keep.of_below ((Below.refl _ W).alloc (Nat.le_refl _) o)
theorem Keep.drewN {R : Nat → Prop} (W : World) (n : Nat) : Keep R W (W.drewN n) := ⟨rfl, rfl, rfl, Nat.le_refl _, fun _ _ h _ => h⟩
theorem Keep.grown {R : Nat → Prop} {W W' : World} {row : Option Nat} (h : W.grownBy W' row) (hR : ∀ k, row = some k → ¬ R k) : Keep R W W' :=
  ⟨h.os, h.tape, h.output, h.size, fun k o hk hr => (h.block k (Array.getElem?_eq_some_iff.1 hk).1 (fun e => hR k e.symm hr)).trans hk⟩
theorem Keep.setCell {R : Nat → Prop} (W : World) {p : Addr} (hR : ¬ R p.block) (v : Value) : Keep R W (W.setCell p v) :=
  ⟨rfl, rfl, rfl, (KeepsWalks.setCell W p v).size, fun k o hk hr => (Below.heap_setCell W p v k (fun e => hR (by rw [← e]; exact hr))).trans hk⟩
theorem Keep.cell {R : Nat → Prop} {W W' : World} (h : Keep R W W') {p : Addr} {v : Value} (hc : W.cell? p = some v) (hR : R p.block) : W'.cell? p = some v := by
  obtain ⟨o, ho, _⟩ := cells_of_cell hc
  have : W'.heap[p.block]? = W.heap[p.block]? := by rw [ho]; exact h.same _ _ ho hR
  exact (World.cell?_of_block this).trans hc
theorem Keep.to_below {m : Nat} {W W' : World} (h : Keep (fun b => b < m) W W') (hm : m ≤ W.heap.size) : Below m W W' :=
  ⟨h.os, h.tape, h.output, h.size, fun k hk => by
    cases ho : W.heap[k]? with
    | none => exact absurd (Array.getElem?_eq_none_iff.1 ho) (by omega)
    | some o => exact h.same k o ho hk⟩
theorem Books.refl (W : World) : Books W W := fun _ _ h _ => h
theorem Books.trans {A B C : World} (h : Books A B) (k : Books B C) : Books A C := fun b o hb hr => k b o (h b o hb hr) hr
theorem Books.of_below {W W' : World} (h : Below W.heap.size W W') : Books W W' := fun k o hk _ => (h.block k (Array.getElem?_eq_some_iff.1 hk).1).trans hk
theorem Books.alloc (W : World) (o : Obj) : Books W (W.alloc o) := Books.of_below ((Below.refl _ W).alloc (Nat.le_refl _) o)
theorem Books.drewN (W : World) (n : Nat) : Books W (W.drewN n) := fun _ _ h _ => h
theorem Books.grown {W W' : World} {row : Option Nat} (h : W.grownBy W' row) (hb : ∀ k o, row = some k → W.heap[k]? = some o → isBook o = false) : Books W W' := fun k o hk hr =>
  (h.block k (Array.getElem?_eq_some_iff.1 hk).1 (fun e => by rw [hb k o e.symm hk] at hr; cases hr)).trans hk
theorem Books.setCell (W : World) (p : Addr) (v : Value) : Books W (W.setCell p v) := fun k o hk hr => (KeepsOthers.setCell W p v).same k o hk (by cases o <;> simp_all [isBook, Obj.isCells])

theorem Stab.put {T : Nat → Prop} {n : Nat} (W : World) {l : Nat} (o o' : Obj) (hl : W.heap[l]? = some o) (ho : isBook o = true) (hn : n ≤ l) : Stab T n W (W.putObj l o') :=
  ⟨rfl, rfl, rfl, by simp, fun k x hk _ hb => by
    refine (World.putObj_heap_other ?_).trans hk
    rintro rfl
    rw [hl] at hk; cases hk
    rcases hb with hb | hb
    · rw [ho] at hb; cases hb
    · omega⟩

/-- THE ITERATOR's WORD: the function gf with what it has captured (lb) hands over at most N times; what it hands over as its k-th (Q k), in a world that came of the last round's by steps of its own (it writes the blocks T alone, and new ones); what it needs kept: R, and its own T1. -/
def Iter (P : Program) (gf : Nat) (lb : Array Value) (N : Nat) (A : (Nat → Prop) → Prop) (R T0 : Nat → Prop) (Q : Nat → Array Value → (Nat → Prop) → Nat → World → Prop) (Fin : Bool → Nat → (Nat → Prop) → World → Prop) (w : World) : Prop :=
  ∀ (l : Nat) (J Jx : Nat → (Nat → Prop) → World → Prop) (W : World), Keep (fun b => R b ∨ T0 b) w W →
    (∀ (k : Nat) (T T1 : Nat → Prop) (W0 W1 : World) (vs : Array Value), k < N → J k T W0 → A T1 → (∀ b, T1 b → T b ∨ W0.heap.size ≤ b) → (∀ b, T1 b → b < W1.heap.size) → Stab T W0.heap.size W0 W1 → Q k vs T1 W0.heap.size W1 →
      ∃ fn tmps assign body, (Instr.yield l vs).run P W1 = .ok (.round l fn tmps assign body) W1 ∧ ∀ m, RoundIn Fence.wide m P l fn tmps assign body W1 fun e W' =>
        (e = .returned (.bool true) ∧ J (k + 1) T1 W' ∧ Keep (fun b => R b ∨ T1 b) W1 W') ∨ (e = .returned (.bool false) ∧ Jx k T1 W' ∧ Keep (fun b => R b ∨ T1 b) W1 W')) →
    J 0 T0 W →
    Calls P gf (#[.func (.yield l) #[] #[]] ++ lb) W fun e W' => (∃ v, e = .returned v) ∧ ∃ (T T' : Nat → Prop) (W0 : World) (k : Nat), A T' ∧ (∀ b, T' b → T b ∨ W0.heap.size ≤ b) ∧ Stab T W0.heap.size W0 W' ∧
      ((k = N ∧ J k T W0 ∧ Fin true k T' W') ∨ (k < N ∧ Jx k T W0 ∧ Fin false k T' W'))

/-- How a round's body may be left. -/
def rfPost (R : Nat → Prop) (I : World → Prop) (Ix : Code → World → Prop) (W : World) : Exit → Act → World → Prop
  | .normal, _, W' => Keep R W W' ∧ Books W W' ∧ I W'
  | .ret, _, W' => Keep R W W' ∧ Books W W' ∧ Ix .ret W'
  | .exit id, _, W' => Keep R W W' ∧ Books W W' ∧ Ix (.exit id) W'
  | .goto t, _, W' => Keep R W W' ∧ Books W W' ∧ Ix (.goto t) W'
  | .panic _, _, _ => False
  | .outgrown, _, _ => False

/-- THE LAW, at a loop that stands in no round of its own function. I k T W: between two rounds, k being over, the iterator's blocks being T. Ix c k T W: round k has left by c. -/
theorem wp_range {P : Program} {g : Operand} {ps : Array Tmp} {assign body : Code} {Q : Exit → Act → World → Prop} {a : Act} {w : World}
    {gf : Nat} {lb : Array Value} (hg : a.eval g = .func (.func gf) #[] lb) (eg : ∀ args w, (callFunc gf args).run P w = .ok (.enter gf args) w)
    {N : Nat} {R T0 : Nat → Prop} {Qv : Nat → Array Value → (Nat → Prop) → Nat → World → Prop} {Fin : Bool → Nat → (Nat → Prop) → World → Prop} {A : (Nat → Prop) → Prop} (hit : Iter P gf lb N A R T0 Qv Fin w) (hA0 : A T0)
    (hR : ∀ b, R b → b < w.heap.size) (hT0 : ∀ b, T0 b → b < w.heap.size) (hps : ∀ k vs T B W, Qv k vs T B W → vs.size = ps.size)
    (hFin : ∀ f k T W W', Fin f k T W → Stab (fun _ => False) w.heap.size W W' → Fin f k T W')
    (I : Nat → (Nat → Prop) → World → Prop) (Ix : Code → Nat → (Nat → Prop) → World → Prop)
    (hI : ∀ k T T' W W', A T → A T' → I k T W → Stab T w.heap.size W W' → (∀ b, T' b → T b ∨ W.heap.size ≤ b) → I k T' W')
    (hIx : ∀ c k T T' W W', A T → A T' → Ix c k T W → Stab T w.heap.size W W' → (∀ b, T' b → T b ∨ W.heap.size ≤ b) → Ix c k T' W')
    (h0 : I 0 T0 w)
    (hround : ∀ (l n : Nat) (k : Nat) (T T1 : Nat → Prop) (W0 X : World) (vs : Array Value), k < N → A T → A T1 → I k T W0 → (∀ b, T1 b → T b ∨ W0.heap.size ≤ b) → Stab T w.heap.size W0 X → Qv k vs T1 W0.heap.size X → (∀ b, R b ∨ T1 b → b < X.heap.size) →
      assign.wpIn (Fence.wide.inRound l) n P (Exit.then (fun a₁ Xa => Below X.heap.size X Xa ∧ ∀ W2, Stab (fun _ => False) w.heap.size Xa W2 →
        body.wpIn (Fence.wide.inRound l) n P (rfPost (fun b => R b ∨ T1 b) (I (k + 1) T1) (fun c => Ix c k T1) W2) a₁ W2) (fun _ _ _ => False)) { tmps := (ps.zip vs).foldl (fun t (p, v) => t.setIfInBounds p v) a.tmps, defers := [] } X)
    (hdone : ∀ (D : Nat) (T : Nat → Prop) (W : World), I N T W → Fin true N T W → w.heap.size ≤ D → W.heap[D]? = some (.deferred (some [])) → Q .normal { a with defers := { target := .collected D, args := #[] } :: a.defers } W)
    (hstop : ∀ (D : Nat) (c : Code) (k : Nat) (T : Nat → Prop) (W : World), k < N → Ix c k T W → Fin false k T W → w.heap.size ≤ D → W.heap[D]? = some (.deferred (some [])) → c.wp P Q { a with defers := { target := .collected D, args := #[] } :: a.defers } W) :
    (Code.rangeFunc g ps assign body).wp P Q a w := by
  refine (wpIn_wide (n := 0)).1 (wpIn_rangeFunc ?_)
  intro fn _
  obtain ⟨rec, hrec⟩ : ∃ rec : LoopState → Option Code → Loop, rec = fun st pe => { state := st, pending := pe, fn, tmps := a.tmps, params := ps, assign, body, defers := w.heap.size } := ⟨_, rfl⟩
  obtain ⟨W1, hW1⟩ : ∃ W1, (w.alloc (.deferred (some []))).alloc (.loop (rec .ready none)) = W1 := ⟨_, rfl⟩
  have hs1 : W1.heap.size = w.heap.size + 2 := by rw [← hW1]; simp
  have hL1 : W1.heap[w.heap.size + 1]? = some (.loop (rec .ready none)) := by
    rw [← hW1]; have := World.alloc_heap_new (w.alloc (.deferred (some []))) (.loop (rec .ready none)); rwa [World.size_alloc] at this
  have hK1 : W1.heap[w.heap.size]? = some (.deferred (some [])) := by
    rw [← hW1]; exact (Below.heap_alloc _ _ _ (by simp)).trans (World.alloc_heap_new w _)
  have hb1 : Below w.heap.size w W1 := by
    rw [← hW1]; exact ((Below.refl _ w).alloc (Nat.le_refl _) _).alloc (by simp) _
  have hI1 : I 0 T0 W1 := hI 0 T0 T0 w W1 hA0 hA0 h0 (Stab.of_below hb1) (fun b hb => .inl hb)
  refine ⟨w.heap.size + 1, [{ target := .collected w.heap.size, args := #[] }], W1, { target := .fn (.func gf) lb, args := #[.func (.yield (w.heap.size + 1)) #[] #[]] }, W1, gf,
    #[.func (.yield (w.heap.size + 1)) #[] #[]] ++ lb, W1, ?_, ?_, ?_, ?_, fun h => by simp [Fence.wide] at h, ?_⟩
  · rw [← hW1, hrec]; exact run_enterLoop_outer _ _ _ _ _
  · simp only [resolve, hg]
    simp [go_sem]
  · intro f' _; trivial
  · simp [invoke, go_sem, eg]
  · refine callsIn_wide.2 ((hit (w.heap.size + 1)
      (fun k T W => A T ∧ I k T W ∧ W.heap[w.heap.size + 1]? = some (.loop (rec .ready none)) ∧ W.heap[w.heap.size]? = some (.deferred (some [])) ∧ ¬ T (w.heap.size + 1) ∧ ¬ T w.heap.size)
      (fun k T W => A T ∧ ∃ c, Ix c k T W ∧ W.heap[w.heap.size + 1]? = some (.loop (rec .done (some c))) ∧ W.heap[w.heap.size]? = some (.deferred (some [])) ∧ ¬ T (w.heap.size + 1) ∧ ¬ T w.heap.size)
      W1 (Keep.of_below hb1) ?_ ⟨hA0, hI1, hL1, hK1, fun h => by have := hT0 _ h; omega, fun h => by have := hT0 _ h; omega⟩).mono ?_)
    · rintro k T T1 W0 X vs hk ⟨hA, hi, hl, hd, hTl, hTd⟩ hA1 hT1 hT1X hst hq
      have hl0 : w.heap.size + 1 < W0.heap.size := (Array.getElem?_eq_some_iff.1 hl).1
      have hX : X.heap[w.heap.size + 1]? = some (.loop (rec .ready none)) := hst.same _ _ hl hTl (.inr hl0)
      have hXd : X.heap[w.heap.size]? = some (.deferred (some [])) := hst.same _ _ hd hTd (.inr (by omega))
      have hT1l : ¬ T1 (w.heap.size + 1) := fun h => by rcases hT1 _ h with h | h; exact hTl h; omega
      have hT1d : ¬ T1 w.heap.size := fun h => by rcases hT1 _ h with h | h; exact hTd h; omega
      have hlt : w.heap.size + 1 < X.heap.size := (Array.getElem?_eq_some_iff.1 hX).1
      have hy := run_yield (P := P) (args := vs) hX (by rw [hrec]; exact hps _ _ _ _ _ hq)
      rw [hrec] at hy
      refine ⟨fn, _, assign, body, hy, fun m => ?_⟩
      have hw0 : Stab T w.heap.size W0 X := ⟨hst.os, hst.tape, hst.output, hst.size, fun b o hb hn hk => hst.same b o hb hn (.inr (Array.getElem?_eq_some_iff.1 hb).1)⟩
      have hbd : ∀ b, R b ∨ T1 b → b < X.heap.size := fun b hb => by
        rcases hb with hb | hb
        · have := hR _ hb; omega
        · exact hT1X b hb
      refine roundIn_of_wpIn (F := Fence.wide) trivial (wpIn_mono (hround _ m k T T1 W0 X vs hk hA hA1 hi hT1 hw0 hq hbd) ?_)
      rintro e a1 Xa hp
      cases e with
      | normal => ?_
      | ret => exact hp.elim
      | exit id => exact hp.elim
      | goto t => exact hp.elim
      | panic ch => exact hp.elim
      | outgrown => exact hp.elim
      obtain ⟨hwa, hbody⟩ := hp
      have hXa : Xa.heap[w.heap.size + 1]? = some (.loop (rec .ready none)) := (hwa.block _ hlt).trans hX
      have hlta : w.heap.size + 1 < Xa.heap.size := (Array.getElem?_eq_some_iff.1 hXa).1
      refine ⟨_, run_beginRound hXa (by rw [hrec]), ?_⟩
      obtain ⟨X2, hX2⟩ : ∃ X2, Xa.putObj (w.heap.size + 1) (.loop { rec .ready none with state := .busy }) = X2 := ⟨_, rfl⟩
      rw [hX2]
      have hl2 : X2.heap[w.heap.size + 1]? = some (.loop { rec .ready none with state := .busy }) := by rw [← hX2]; exact World.putObj_heap_same hlta
      have hd2 : X2.heap[w.heap.size]? = some (.deferred (some [])) := by rw [← hX2]; exact (World.putObj_heap_other (by omega)).trans ((hwa.block _ (by omega)).trans hXd)
      have sA : ∀ T, Stab T w.heap.size X Xa := fun T => Stab.of_below hwa
      have sB : ∀ T, Stab T w.heap.size Xa X2 := fun T => by rw [← hX2]; exact Stab.put _ _ _ hXa rfl (by omega)
      have sC : ∀ T, Stab T w.heap.size X X2 := fun T => (sA T).trans (sB T) (fun b hb => .inl hb)
      refine wpIn_mono (hbody X2 (sB _)) ?_
      have rnd : ∀ (W3 : World) (o : Obj), Keep (fun b => R b ∨ T1 b) X2 W3 → Keep (fun b => R b ∨ T1 b) X (W3.putObj (w.heap.size + 1) o) := fun W3 o h3 => by
        have e : ∀ (b : Nat) (x : Obj), b ≠ w.heap.size + 1 → X.heap[b]? = some x → X2.heap[b]? = some x := fun b x hne hx => by
          rw [← hX2]; exact (World.putObj_heap_other hne).trans ((hwa.block _ (Array.getElem?_eq_some_iff.1 hx).1).trans hx)
        refine ⟨h3.os.trans (sC T).os, h3.tape.trans (sC T).tape, h3.output.trans (sC T).output, by have := (sC T).size; have := h3.size; simp; omega, fun b x hb hr => ?_⟩
        have hne : b ≠ w.heap.size + 1 := fun e => by
          subst e
          rcases hr with hr | hr
          · have := hR _ hr; omega
          · exact hT1l hr
        exact (World.putObj_heap_other hne).trans (h3.same _ _ (e b x hne hb) hr)
      have fin : ∀ (jump : Option Code) (W3 : World), Books X2 W3 →
          (Instr.endRound (w.heap.size + 1) jump).run P W3 = .ok (.bool jump.isNone) (W3.putObj (w.heap.size + 1) (.loop (rec (if jump.isNone then .ready else .done) jump))) ∧
          W3.heap[w.heap.size + 1]? = some (.loop { rec .ready none with state := .busy }) ∧
          (W3.putObj (w.heap.size + 1) (.loop (rec (if jump.isNone then .ready else .done) jump))).heap[w.heap.size + 1]? = some (.loop (rec (if jump.isNone then .ready else .done) jump)) ∧
          (W3.putObj (w.heap.size + 1) (.loop (rec (if jump.isNone then .ready else .done) jump))).heap[w.heap.size]? = some (.deferred (some [])) := fun jump W3 hk3 => by
        have hl3 := hk3 _ _ hl2 rfl
        have := run_endRound (P := P) jump hl3
        rw [hrec] at this ⊢
        exact ⟨this, by rw [hrec] at hl3; exact hl3, World.putObj_heap_same (Array.getElem?_eq_some_iff.1 hl3).1, (World.putObj_heap_other (by omega)).trans (hk3 _ _ hd2 rfl)⟩
      rintro e a3 W3 hp
      cases e with
      | normal =>
        obtain ⟨hkp3, hk3, hi3⟩ := hp
        obtain ⟨hr, hl3, hl4, hk4⟩ := fin none W3 hk3
        exact ⟨_, _, hr, .inl ⟨rfl, ⟨hA1, hI _ _ _ _ _ hA1 hA1 hi3 (Stab.put _ _ _ hl3 rfl (by omega)) (fun b hb => .inl hb), hl4, hk4, hT1l, hT1d⟩, rnd _ _ hkp3⟩⟩
      | ret =>
        obtain ⟨hkp3, hk3, hi3⟩ := hp
        obtain ⟨hr, hl3, hl4, hk4⟩ := fin (some .ret) W3 hk3
        exact ⟨_, _, hr, .inr ⟨rfl, ⟨hA1, .ret, hIx _ _ _ _ _ _ hA1 hA1 hi3 (Stab.put _ _ _ hl3 rfl (by omega)) (fun b hb => .inl hb), hl4, hk4, hT1l, hT1d⟩, rnd _ _ hkp3⟩⟩
      | exit id =>
        obtain ⟨hkp3, hk3, hi3⟩ := hp
        obtain ⟨hr, hl3, hl4, hk4⟩ := fin (some (.exit id)) W3 hk3
        exact ⟨_, _, hr, .inr ⟨rfl, ⟨hA1, .exit id, hIx _ _ _ _ _ _ hA1 hA1 hi3 (Stab.put _ _ _ hl3 rfl (by omega)) (fun b hb => .inl hb), hl4, hk4, hT1l, hT1d⟩, rnd _ _ hkp3⟩⟩
      | goto t =>
        obtain ⟨hkp3, hk3, hi3⟩ := hp
        obtain ⟨hr, hl3, hl4, hk4⟩ := fin (some (.goto t)) W3 hk3
        exact ⟨_, _, hr, .inr ⟨rfl, ⟨hA1, .goto t, hIx _ _ _ _ _ _ hA1 hA1 hi3 (Stab.put _ _ _ hl3 rfl (by omega)) (fun b hb => .inl hb), hl4, hk4, hT1l, hT1d⟩, rnd _ _ hkp3⟩⟩
      | panic ch => exact hp.elim
      | outgrown => exact hp.elim
    · rintro e W2 ⟨⟨v, rfl⟩, T, T', W0, k, hA', hT', hst, hend⟩
      have hw0 : Stab T w.heap.size W0 W2 := ⟨hst.os, hst.tape, hst.output, hst.size, fun b o hb hn hk => hst.same b o hb hn (.inr (Array.getElem?_eq_some_iff.1 hb).1)⟩
      rcases hend with ⟨rfl, ⟨hA, hi, hl, hd, hTl, hTd⟩, hf⟩ | ⟨hk, ⟨hA, c, hi, hl, hd, hTl, hTd⟩, hf⟩
      · have hl0 : w.heap.size + 1 < W0.heap.size := (Array.getElem?_eq_some_iff.1 hl).1
        have hl2 := hst.same _ _ hl hTl (.inr hl0)
        have hd2 := hst.same _ _ hd hTd (.inr (by omega))
        have sP : ∀ T, Stab T w.heap.size W2 (W2.putObj (w.heap.size + 1) (.loop { rec .ready none with state := .exhausted })) := fun T => Stab.put _ _ _ hl2 rfl (by omega)
        refine ⟨none, _, by have := run_endLoop (P := P) hl2 (by rw [hrec]; simp); rw [hrec] at this; exact this, ?_⟩
        have sP' := sP T'
        rw [hrec] at sP'
        have sF := sP (fun _ => False)
        rw [hrec] at sF
        exact hdone _ T' _ (hI _ _ _ _ _ hA' hA' (hI _ _ _ _ _ hA hA' hi hw0 hT') sP' (fun b hb => .inl hb)) (hFin _ _ _ _ _ hf sF) (Nat.le_refl _) ((World.putObj_heap_other (by omega)).trans hd2)
      · have hl0 : w.heap.size + 1 < W0.heap.size := (Array.getElem?_eq_some_iff.1 hl).1
        have hl2 := hst.same _ _ hl hTl (.inr hl0)
        have hd2 := hst.same _ _ hd hTd (.inr (by omega))
        have sP : ∀ T, Stab T w.heap.size W2 (W2.putObj (w.heap.size + 1) (.loop { rec .done (some c) with state := .exhausted })) := fun T => Stab.put _ _ _ hl2 rfl (by omega)
        refine ⟨some c, _, by have := run_endLoop (P := P) hl2 (by rw [hrec]; simp); rw [hrec] at this; exact this, ?_⟩
        have sP' := sP T'
        rw [hrec] at sP'
        have sF := sP (fun _ => False)
        rw [hrec] at sF
        exact wpIn_wide.2 (hstop _ c k T' _ hk (hIx _ _ _ _ _ _ hA' hA' (hIx _ _ _ _ _ _ hA hA' hi hw0 hT') sP' (fun b hb => .inl hb)) (hFin _ _ _ _ _ hf sF) (Nat.le_refl _) ((World.putObj_heap_other (by omega)).trans hd2))

/-- A function that holds one such loop returns: the block for the rounds' deferred calls is shut. -/
theorem marks_leave {n : Nat} {P : Program} {fn : Func} {R : Ending → World → Prop} {a : Act} {w : World} {D : Nat} {v : Value} (hres : (results fn a.tmps).run P (w.putObj D (.deferred none)) = .ok v (w.putObj D (.deferred none)))
    (hd : a.defers = [{ target := .collected D, args := #[] }]) (hD : w.heap[D]? = some (.deferred (some []))) (h : R (.returned v) (w.putObj D (.deferred none))) : LeavesInM Fence.wide n P fn a.tmps R a.defers .returning w := by
  rw [hd]
  exact ⟨by simp, .inl ⟨_, _, rfl, run_takeDeferred hD, ⟨v, hres, h⟩⟩⟩
theorem marks_ret {n : Nat} {P : Program} {fn : Func} {R : Ending → World → Prop} {a : Act} {w : World} {D : Nat} {v : Value} (hres : (results fn a.tmps).run P (w.putObj D (.deferred none)) = .ok v (w.putObj D (.deferred none)))
    (hd : a.defers = [{ target := .collected D, args := #[] }]) (hD : w.heap[D]? = some (.deferred (some []))) (h : R (.returned v) (w.putObj D (.deferred none))) : bodyPostM Fence.wide n P fn R .ret a w := marks_leave hres hd hD h
theorem marks_end {n : Nat} {P : Program} {fn : Func} {R : Ending → World → Prop} {a : Act} {w : World} {D : Nat} {v : Value} (hres : (results fn a.tmps).run P (w.putObj D (.deferred none)) = .ok v (w.putObj D (.deferred none)))
    (hd : a.defers = [{ target := .collected D, args := #[] }]) (hD : w.heap[D]? = some (.deferred (some []))) (h : R (.returned v) (w.putObj D (.deferred none))) : bodyPostM Fence.wide n P fn R .normal a w := marks_leave hres hd hD h
theorem stab_shut {T : Nat → Prop} {n : Nat} {w : World} {D : Nat} (hD : w.heap[D]? = some (.deferred (some []))) (hn : n ≤ D) : Stab T n w (w.putObj D (.deferred none)) := Stab.put _ _ _ hD rfl hn

/-- No block is the iterator's own. -/
def NoT (T : Nat → Prop) : Prop := ∀ b, ¬ T b
theorem noT : NoT (fun _ => False) := fun _ h => h
theorem Stab.bare {T : Nat → Prop} {n : Nat} {W W' : World} (h : Stab T n W W') (hT : NoT T) : Stab (fun _ => False) n W W' := ⟨h.os, h.tape, h.output, h.size, fun k o hk _ hb => h.same k o hk (hT k) hb⟩

/-- THE LAW, for an iterator that writes nothing. -/
theorem wp_range0 {P : Program} {g : Operand} {ps : Array Tmp} {assign body : Code} {Q : Exit → Act → World → Prop} {a : Act} {w : World}
    {gf : Nat} {lb : Array Value} (hg : a.eval g = .func (.func gf) #[] lb) (eg : ∀ args w, (callFunc gf args).run P w = .ok (.enter gf args) w)
    {N : Nat} {R : Nat → Prop} {Qv : Nat → Array Value → (Nat → Prop) → Nat → World → Prop} (hit : Iter P gf lb N NoT R (fun _ => False) Qv (fun _ _ _ _ => True) w)
    (hR : ∀ b, R b → b < w.heap.size) (hps : ∀ k vs T B W, Qv k vs T B W → vs.size = ps.size)
    (I : Nat → World → Prop) (Ix : Code → Nat → World → Prop)
    (hI : ∀ k W W', I k W → Stab (fun _ => False) w.heap.size W W' → I k W')
    (hIx : ∀ c k W W', Ix c k W → Stab (fun _ => False) w.heap.size W W' → Ix c k W')
    (h0 : I 0 w)
    (hround : ∀ (l n : Nat) (k : Nat) (T : Nat → Prop) (W0 X : World) (vs : Array Value), k < N → I k W0 → Stab (fun _ => False) w.heap.size W0 X → Qv k vs T W0.heap.size X → (∀ b, R b → b < X.heap.size) →
      assign.wpIn (Fence.wide.inRound l) n P (Exit.then (fun a₁ Xa => Below X.heap.size X Xa ∧ ∀ W2, Stab (fun _ => False) w.heap.size Xa W2 →
        body.wpIn (Fence.wide.inRound l) n P (rfPost R (I (k + 1)) (fun c => Ix c k) W2) a₁ W2) (fun _ _ _ => False)) { tmps := (ps.zip vs).foldl (fun t (p, v) => t.setIfInBounds p v) a.tmps, defers := [] } X)
    (hdone : ∀ (D : Nat) (W : World), I N W → w.heap.size ≤ D → W.heap[D]? = some (.deferred (some [])) → Q .normal { a with defers := { target := .collected D, args := #[] } :: a.defers } W)
    (hstop : ∀ (D : Nat) (c : Code) (k : Nat) (W : World), k < N → Ix c k W → w.heap.size ≤ D → W.heap[D]? = some (.deferred (some [])) → c.wp P Q { a with defers := { target := .collected D, args := #[] } :: a.defers } W) :
    (Code.rangeFunc g ps assign body).wp P Q a w := by
  refine wp_range hg eg hit noT hR (fun _ h => h.elim) hps (fun _ _ _ _ _ h _ => h) (fun k _ W => I k W) (fun c k _ W => Ix c k W) (fun k T T' W W' hT _ h hs _ => hI k W W' h (hs.bare hT)) (fun c k T T' W W' hT _ h hs _ => hIx c k W W' h (hs.bare hT)) h0 ?_
    (fun D _ W h _ hD hd => hdone D W h hD hd) (fun D c k _ W hk h _ hD hd => hstop D c k W hk h hD hd)
  intro l n k T T1 W0 X vs hk hA hA1 hi hT1 hst hq hb
  refine wpIn_mono (hround l n k T1 W0 X vs hk hi (hst.bare hA) hq (fun b h => hb b (.inl h))) ?_
  intro e a1 Xa hp
  cases e <;> first | exact hp.elim | skip
  refine ⟨hp.1, fun W2 hs => wpIn_mono (hp.2 W2 hs) ?_⟩
  have hm : ∀ W3, Keep R W2 W3 → Keep (fun b => R b ∨ T1 b) W2 W3 := fun W3 h => h.mono (fun b hb => hb.resolve_right (hA1 b))
  intro e a3 W3 hp
  cases e <;> first | exact ⟨hm _ hp.1, hp.2⟩ | exact hp

end Go.Proofs.YtgdlpgakhhebeaaGreatDoor
