/- A region that draws its order, walked in ONE order of ours: an operation that only reads is taken as soon as it may come, if it reads alike in every world of a class C in which all worlds on the way lie; an operation that does more is taken when nothing else may come. Nothing of a program stands here. -/
import Derived.OrdersIn
import Derived.OwnWalkIn
import Derived.KernelRfl
import Derived.Deep.RegionHeld3
set_option linter.unusedVariables false
namespace Go.Proofs.Ytmkhhnhoodneeaa
open Go

section
variable {F : Fence} {n : Nat} {P : Program} {ops : Array Oper} {Q : Exit → Act → World → Prop} {md : Region.Mode} {C : World → Prop}

/-- What a reading operation may come to. -/
def readUpon (w : World) (v : Value) : Result Next → Prop
  | .ok (.value u) w' => w' = w ∧ u = v
  | .ok .skip w' => w' = w ∧ v = undef
  | _ => False
/-- In every world of C the operation o leaves v, and the world. -/
def YieldsC (P : Program) (ops : Array Oper) (C : World → Prop) (o : Oper) (v : Value) (a : Act) : Prop :=
  (Region.wanted o (yielded ops a.tmps) = true ∧ ∀ w, C w → readUpon w v ((execOp a.eval o).run P w)) ∨ (Region.wanted o (yielded ops a.tmps) = false ∧ v = undef)
/-- Whatever order is picked from here on, all worlds on the way being of C. -/
def wpAnyC (F : Fence) (n : Nat) (P : Program) (md : Region.Mode) (ops : Array Oper) (Q : Exit → Act → World → Prop) (C : World → Prop) : Nat → Array Bool → Act → World → Prop
  | 0, listed, a, w => C w ∧ Region.ready md ops listed = [] ∧ Q .normal a w
  | fuel + 1, listed, a, w => C w ∧ (Region.ready md ops listed = [] → Q .normal a w) ∧ ∀ i ∈ Region.ready md ops listed, wpOpIn F n P ops Q i (wpAnyC F n P md ops Q C fuel (listed.setIfInBounds i true)) a w
theorem wpAnyC.class : ∀ {fuel : Nat} {listed : Array Bool} {a : Act} {w : World}, wpAnyC F n P md ops Q C fuel listed a w → C w
  | 0, _, _, _, h => h.1
  | _ + 1, _, _, _, h => h.1
theorem wpAnyIn_of_C : ∀ (fuel : Nat) (listed : Array Bool) (a : Act) (w : World), wpAnyC F n P md ops Q C fuel listed a w → wpAnyIn F n P md ops Q fuel listed a w
  | 0, _, _, _, h => h.2
  | fuel + 1, _, _, _, h => ⟨h.2.1, fun i hi => wpOpIn_mono (fun a w => wpAnyIn_of_C fuel _ a w) (h.2.2 i hi)⟩

def noDeferB (ops : Array Oper) : Bool := ops.all fun o => match o.op with | .defer _ => false | _ => true
theorem noDefer_spec (h : noDeferB ops = true) (j : Nat) (o : Oper) (ho : ops[j]? = some o) : ∀ c, o.op ≠ .defer c := by
  intro c hc
  obtain ⟨hlt, rfl⟩ := Array.getElem?_eq_some_iff.1 ho
  have := Array.all_eq_true.1 h j hlt
  rw [hc] at this
  cases this

theorem YieldsC.of_same {o : Oper} {v : Value} {a a' : Act} (hy : YieldsC P ops C o v a) (he : execOp a'.eval o = execOp a.eval o)
    (hw : Region.wanted o (yielded ops a'.tmps) = Region.wanted o (yielded ops a.tmps)) : YieldsC P ops C o v a' := by
  unfold YieldsC at *
  rw [he, hw]
  exact hy
theorem YieldsC.wpOpIn (hF : ∀ f, F.fn f) (hdf : noDeferB ops = true) {i : Nat} {o : Oper} {v : Value} {a : Act} (hi : ops[i]? = some o) (hy : YieldsC P ops C o v a) {K : Act → World → Prop} {w : World} (hC : C w) (h : K (a.put o.dst v) w) : wpOpIn F n P ops Q i K a w := by
  unfold Go.wpOpIn
  simp only [hi]
  rcases hy with ⟨hw, hv⟩ | ⟨hw, rfl⟩
  · simp only [hw, if_true, Oper.wpIn]
    refine ⟨fun f _ => hF f, ?_⟩
    rw [Oper.semAt_plain F _ _ (noDefer_spec hdf i o hi)]
    have h3 := hv w hC
    generalize (execOp a.eval o).run P w = r at *
    cases r with
    | halt x w' => exact h3.elim
    | ok x w' =>
      cases x <;> simp only [readUpon] at h3
      case value u => obtain ⟨rfl, rfl⟩ := h3; exact h
      case skip => obtain ⟨rfl, rfl⟩ := h3; exact h
  · simp only [hw, Bool.false_eq_true, if_false]; exact ⟨fun f _ => hF f, h⟩

theorem wpOpIn_putC (hdf : noDeferB ops = true) {j : Nat} {oi oj : Oper} {v : Value} (hj : ops[j]? = some oj) (hap : oi.apart ops oj = true)
    (hsi : ∀ cs b, oi.op ≠ .select cs b) (hsj : ∀ cs b, oj.op ≠ .select cs b)
    (hQ : ∀ c a w, ¬ Q (.panic c) a w) {K : Act → World → Prop} {a : Act} {w : World}
    (hy : YieldsC P ops C oi v a) (h : wpOpIn F n P ops Q j K (a.put oi.dst v) w) :
    wpOpIn F n P ops Q j (fun a' w' => YieldsC P ops C oi v a' ∧ K (a'.put oi.dst v) w') a w := by
  obtain ⟨h1, h2, h3⟩ := Oper.apart_spec hap
  have keep : ∀ (a : Act), YieldsC P ops C oi v a → ∀ u, YieldsC P ops C oi v (a.put oj.dst u) := fun a hy u =>
    hy.of_same (execOp_put oi hsi a oj.dst u h3) (wanted_put oi a oj.dst u h3)
  have keepD : ∀ d, YieldsC P ops C oi v { a with defers := d :: a.defers } := fun d => hy.of_same rfl rfl
  have hnd := noDefer_spec hdf j oj hj
  unfold wpOpIn at *
  simp only [hj] at *
  rw [wanted_put oj a oi.dst v h1, about_put oj w a oi.dst v h1] at h
  split
  · rename_i hw
    simp only [hw, if_true] at h
    unfold Oper.wpIn at *
    rw [about_put oj w a oi.dst v h1] at h
    refine ⟨h.1, ?_⟩
    have h := h.2
    rw [Oper.semAt_plain F _ _ hnd, execOp_put oj hsj a oi.dst v h1] at h
    rw [Oper.semAt_plain F _ _ hnd]
    generalize (execOp a.eval oj).run P w = r at *
    cases r with
    | ok x w' =>
      cases x <;> simp only [Oper.uponIn] at h ⊢
      case value u => exact ⟨keep a hy u, by rw [← Act.put_comm a v u h2]; exact h⟩
      case skip => exact ⟨keep a hy _, by rw [← Act.put_comm a v undef h2]; exact h⟩
      case defer d =>
        refine ⟨keep _ (keepD d) _, ?_⟩
        rw [← Act.put_comm _ v undef h2, ← Act.put_defers]
        exact h
      case enter f args =>
        refine ⟨h.1, CallsIn.mono h.2 fun e w'' he => ?_⟩
        cases e with
        | returned u => exact ⟨keep a hy u, by rw [← Act.put_comm a v u h2]; exact he⟩
        | panicked c => exact (hQ _ _ _ he).elim
        | outgrown => exact he
      case row row args => exact ⟨h.1, RowsIn.mono h.2 fun u w'' he => ⟨keep a hy u, by rw [← Act.put_comm a v u h2]; exact he⟩⟩
      case round l f tmps assign body =>
        refine ⟨h.1, RoundIn.mono h.2 fun e w'' he => ?_⟩
        cases e with
        | returned u => exact ⟨keep a hy u, by rw [← Act.put_comm a v u h2]; exact he⟩
        | panicked c => exact (hQ _ _ _ he).elim
        | outgrown => exact he
    | halt x w' =>
      cases x <;> simp only [Oper.uponIn] at h ⊢
      case panic u => exact (hQ _ _ _ h).elim
  · rename_i hw
    simp only [hw] at h
    exact ⟨h.1, keep a hy _, by rw [← Act.put_comm a v undef h2]; exact h.2⟩

theorem wpAnyC_first (hF : ∀ f, F.fn f) (hdf : noDeferB ops = true) {i : Nat} {oi : Oper} {v : Value} (hi : ops[i]? = some oi) (hsel : ∀ (j : Nat) (o : Oper) cs b, ops[j]? = some o → o.op ≠ .select cs b)
    (hQ : ∀ c a w, ¬ Q (.panic c) a w) :
    ∀ (fuel : Nat) (listed : Array Bool) (a : Act) (w : World),
      (∀ j oj, ops[j]? = some oj → j ≠ i → listed.getD j true = false → (∀ e ∈ oj.after, Region.binds md e = true → e.on ≠ i) → oi.apart ops oj = true) →
      i ∈ Region.ready md ops listed → YieldsC P ops C oi v a →
      wpAnyC F n P md ops Q C fuel (listed.setIfInBounds i true) (a.put oi.dst v) w → wpAnyC F n P md ops Q C (fuel + 1) listed a w := by
  intro fuel
  induction fuel with
  | zero =>
    intro listed a w _ hr hy H
    refine ⟨H.1, fun h => (by rw [h] at hr; cases hr), fun j hj => ?_⟩
    by_cases hji : j = i
    · subst hji; exact hy.wpOpIn hF hdf hi H.1 H
    · have := ready_mono hj hji
      rw [H.2.1] at this
      cases this
  | succ fuel ih =>
    intro listed a w hfree hr hy H
    refine ⟨H.1, fun h => (by rw [h] at hr; cases hr), fun j hj => ?_⟩
    by_cases hji : j = i
    · subst hji; exact hy.wpOpIn hF hdf hi H.1 H
    · have h1 := H.2.2 j (ready_mono hj hji)
      obtain ⟨hjun, oj, hoj, hall⟩ := mem_ready.1 hj
      have hnot : ∀ e ∈ oj.after, Region.binds md e = true → e.on ≠ i := fun e he hb heq => by
        have h1 := hall e he hb
        have h0 := (mem_ready.1 hr).1
        rw [heq] at h1
        rcases Nat.lt_or_ge i listed.size with h' | h'
        · simp [h'] at h0 h1; rw [h0] at h1; cases h1
        · simp [Array.getElem?_eq_none h'] at h1
      have h2 := wpOpIn_putC hdf hoj (hfree j oj hoj hji hjun hnot) (fun cs b => hsel i oi cs b hi) (fun cs b => hsel j oj cs b hoj) hQ hy h1
      have hfree' : ∀ k ok, ops[k]? = some ok → k ≠ i → (listed.setIfInBounds j true).getD k true = false →
          (∀ e ∈ ok.after, Region.binds md e = true → e.on ≠ i) → oi.apart ops ok = true := fun k ok hk hki hun hno => by
        refine hfree k ok hk hki ?_ hno
        by_cases hjk : j = k
        · subst hjk; exact hjun
        · rw [getD_set_ne true hjk] at hun; exact hun
      refine wpOpIn_mono (fun a' w' h3 => ih (listed.setIfInBounds j true) a' w' hfree' (ready_mono hr (Ne.symm hji)) h3.1 ?_) h2
      rw [Array.setIfInBounds_comm _ _ hji]
      exact h3.2

/-- The walk in our order: (number, does it only read?). -/
def wpH (F : Fence) (n : Nat) (P : Program) (ops : Array Oper) (Q : Exit → Act → World → Prop) (C : World → Prop) : List (Nat × Bool) → Act → World → Prop
  | [], a, w => C w ∧ Q .normal a w
  | (i, true) :: r, a, w => ∃ o v, ops[i]? = some o ∧ YieldsC P ops C o v a ∧ wpH F n P ops Q C r (a.put o.dst v) w
  | (i, false) :: r, a, w => C w ∧ wpOpIn F n P ops Q i (wpH F n P ops Q C r) a w
def hoistB (md : Region.Mode) (ops : Array Oper) : List (Nat × Bool) → Array Bool → Bool
  | [], listed => (Region.ready md ops listed).isEmpty
  | (i, true) :: r, listed => (Region.ready md ops listed).contains i && Region.free md ops listed i && hoistB md ops r (listed.setIfInBounds i true)
  | (i, false) :: r, listed => Region.ready md ops listed == [i] && hoistB md ops r (listed.setIfInBounds i true)
theorem wpAnyC_of_H (hF : ∀ f, F.fn f) (hdf : noDeferB ops = true) (hs : Region.noSelect ops = true) (hQ : ∀ c a w, ¬ Q (.panic c) a w) : ∀ (l : List (Nat × Bool)) (listed : Array Bool) (a : Act) (w : World), hoistB md ops l listed = true → wpH F n P ops Q C l a w → wpAnyC F n P md ops Q C l.length listed a w
  | [], listed, a, w, hB, h => ⟨h.1, by simpa [hoistB] using hB, h.2⟩
  | (i, true) :: r, listed, a, w, hB, h => by
    simp only [hoistB, Bool.and_eq_true] at hB
    obtain ⟨o, v, hi, hy, hK⟩ := h
    exact wpAnyC_first hF hdf hi (Region.noSelect_spec hs) hQ r.length listed a w (Region.free_spec hi hB.1.2) (by simpa using hB.1.1) hy (wpAnyC_of_H hF hdf hs hQ r _ _ _ hB.2 hK)
  | (i, false) :: r, listed, a, w, hB, h => by
    simp only [hoistB, Bool.and_eq_true, beq_iff_eq] at hB
    show C w ∧ (Region.ready md ops listed = [] → Q .normal a w) ∧ ∀ i ∈ Region.ready md ops listed, wpOpIn F n P ops Q i (wpAnyC F n P md ops Q C r.length (listed.setIfInBounds i true)) a w
    refine ⟨h.1, fun h0 => (by rw [hB.1] at h0; cases h0), fun j hj => ?_⟩
    rw [hB.1] at hj
    obtain rfl : j = i := by simpa using hj
    exact wpOpIn_mono (fun a w hw => wpAnyC_of_H hF hdf hs hQ r _ _ _ hB.2 hw) h.2
/-- THE RULE. -/
theorem wpIn_region_hoist (l : List (Nat × Bool)) (C : World → Prop) {id : Nat} {L : List Oper} {Q : Exit → Act → World → Prop} {a : Act} {w : World} (hF : ∀ f, F.fn f) (hm : P.follows .mixedOrders = true)
    (hB : (noDeferB L.toArray && Region.noSelect L.toArray && (l.length == L.toArray.size) && hoistB .any L.toArray l (Array.replicate L.toArray.size false)) = true)
    (h : wpH F n P L.toArray (NoPanic Q) C l a w.drew) : (Code.region id L.toArray true).wpIn F n P Q a w := by
  simp only [Bool.and_eq_true, beq_iff_eq] at hB
  refine wpIn_mono (Q := NoPanic Q) (wpIn_region_any hm ?_) NoPanic.imp
  have := wpAnyIn_of_C _ _ _ _ (wpAnyC_of_H hF hB.1.1.1 hB.1.1.2 (fun c a w h => h) l _ a w.drew hB.2 h)
  rw [hB.1.2] at this
  exact this
/-- The same outside of all fences. -/
theorem wp_region_hoist (l : List (Nat × Bool)) (C : World → Prop) {id : Nat} {L : List Oper} {Q : Exit → Act → World → Prop} {a : Act} {w : World} (hm : P.follows .mixedOrders = true)
    (hB : (noDeferB L.toArray && Region.noSelect L.toArray && (l.length == L.toArray.size) && hoistB .any L.toArray l (Array.replicate L.toArray.size false)) = true)
    (h : wpH Fence.wide 0 P L.toArray (NoPanic Q) C l a w.drew) : (Code.region id L.toArray true).wp P Q a w :=
  (wpIn_wide (n := 0)).1 (wpIn_region_hoist l C (fun _ => trivial) hm hB h)

/-- Steps. -/
theorem wpH_read {i : Nat} {o : Oper} {r : List (Nat × Bool)} {a : Act} {w : World} (v : Value) (hi : ops[i]? = some o) (hw : Region.wanted o (yielded ops a.tmps) = true) (hv : ∀ w', C w' → readUpon w' v ((execOp a.eval o).run P w'))
    (h : wpH F n P ops Q C r (a.put o.dst v) w) : wpH F n P ops Q C ((i, true) :: r) a w := ⟨o, v, hi, .inl ⟨hw, hv⟩, h⟩
theorem wpH_pass {i : Nat} {o : Oper} {r : List (Nat × Bool)} {a : Act} {w : World} (hi : ops[i]? = some o) (hw : Region.wanted o (yielded ops a.tmps) = false)
    (h : wpH F n P ops Q C r (a.put o.dst undef) w) : wpH F n P ops Q C ((i, true) :: r) a w := ⟨o, undef, hi, .inr ⟨hw, rfl⟩, h⟩
theorem wpH_do {i : Nat} {o : Oper} {r : List (Nat × Bool)} {a : Act} {w : World} (hi : ops[i]? = some o) (hC : C w) (hw : Region.wanted o (yielded ops a.tmps) = true)
    (h : ∀ K : Act → World → Prop, (∀ a w, wpH F n P ops Q C r a w → K a w) → o.wpIn F n P a w K Q) : wpH F n P ops Q C ((i, false) :: r) a w := by
  refine ⟨hC, ?_⟩
  unfold wpOpIn
  rw [hi]
  simp only [hw, if_true]
  exact h _ (fun _ _ h => h)
theorem wpH_skip {i : Nat} {o : Oper} {r : List (Nat × Bool)} {a : Act} {w : World} (hF : ∀ f, F.fn f) (hi : ops[i]? = some o) (hC : C w) (hw : Region.wanted o (yielded ops a.tmps) = false)
    (h : wpH F n P ops Q C r (a.put o.dst undef) w) : wpH F n P ops Q C ((i, false) :: r) a w := by
  refine ⟨hC, ?_⟩
  unfold wpOpIn
  rw [hi]
  simp only [hw, Bool.false_eq_true, if_false]
  exact ⟨fun f _ => hF f, h⟩
/-- The same, the frame written out. -/
theorem wpH_readL {i d : Nat} {o : Oper} {r : List (Nat × Bool)} {T : List Value} {D : List Deferred} {w : World} (v : Value) (hi : ops[i]? = some o) (hd : o.dst = some d) (hw : Region.wanted o (yielded ops T.toArray) = true) (hv : ∀ w', C w' → readUpon w' v ((execOp (Act.eval { tmps := T.toArray, defers := D }) o).run P w'))
    (h : wpH F n P ops Q C r { tmps := (T.set d v).toArray, defers := D } w) : wpH F n P ops Q C ((i, true) :: r) { tmps := T.toArray, defers := D } w :=
  wpH_read v hi hw hv (by rw [hd]; simpa [Act.put] using h)
theorem wpH_passL {i d : Nat} {o : Oper} {r : List (Nat × Bool)} {T : List Value} {D : List Deferred} {w : World} (hi : ops[i]? = some o) (hd : o.dst = some d) (hw : Region.wanted o (yielded ops T.toArray) = false)
    (h : wpH F n P ops Q C r { tmps := (T.set d undef).toArray, defers := D } w) : wpH F n P ops Q C ((i, true) :: r) { tmps := T.toArray, defers := D } w :=
  wpH_pass hi hw (by rw [hd]; simpa [Act.put] using h)
theorem wpH_skipL {i d : Nat} {o : Oper} {r : List (Nat × Bool)} {T : List Value} {D : List Deferred} {w : World} (hF : ∀ f, F.fn f) (hi : ops[i]? = some o) (hd : o.dst = some d) (hC : C w) (hw : Region.wanted o (yielded ops T.toArray) = false)
    (h : wpH F n P ops Q C r { tmps := (T.set d undef).toArray, defers := D } w) : wpH F n P ops Q C ((i, false) :: r) { tmps := T.toArray, defers := D } w :=
  wpH_skip hF hi hC hw (by rw [hd]; simpa [Act.put] using h)
/-- An operation whose run is known. -/
theorem wpIn_value {o : Oper} {a : Act} {K : Act → World → Prop} {w w' : World} {v : Value} (hF : ∀ f, F.fn f) (hnd : ∀ c, o.op ≠ .defer c) (hr : (execOp a.eval o).run P w = .ok (.value v) w') (h : K (a.put o.dst v) w') : o.wpIn F n P a w K Q := by
  refine ⟨fun f _ => hF f, ?_⟩
  rw [Oper.semAt_plain F _ _ hnd, hr]
  exact h
theorem wpIn_call {o : Oper} {a : Act} {K : Act → World → Prop} {w : World} {f : FuncId} {args : Array Value} (hF : ∀ f, F.fn f) (hd : F.depth.isSome = false) (hnd : ∀ c, o.op ≠ .defer c) (hr : (execOp a.eval o).run P w = .ok (.enter f args) w) (h : CallsIn F (n - 1) P f args w fun e w' => ∃ v, e = .returned v ∧ K (a.put o.dst v) w') : o.wpIn F n P a w K Q := by
  refine ⟨fun f _ => hF f, ?_⟩
  rw [Oper.semAt_plain F _ _ hnd, hr]
  exact ⟨fun h => (by rw [hd] at h; cases h), h.mono (fun e w' ⟨v, he, hk⟩ => by subst he; exact hk)⟩
/-- The same as steps, the frame written out. -/
theorem wpH_valueL {i d : Nat} {o : Oper} {r : List (Nat × Bool)} {T : List Value} {D : List Deferred} {w w' : World} (v : Value) (hF : ∀ f, F.fn f) (hi : ops[i]? = some o) (hd : o.dst = some d) (hC : C w) (hw : Region.wanted o (yielded ops T.toArray) = true) (hnd : ∀ c, o.op ≠ .defer c)
    (hr : (execOp (Act.eval { tmps := T.toArray, defers := D }) o).run P w = .ok (.value v) w') (h : wpH F n P ops Q C r { tmps := (T.set d v).toArray, defers := D } w') : wpH F n P ops Q C ((i, false) :: r) { tmps := T.toArray, defers := D } w :=
  wpH_do hi hC hw (fun K hK => wpIn_value hF hnd hr (hK _ _ (by rw [hd]; simpa [Act.put] using h)))
theorem wpH_callL {i d : Nat} {o : Oper} {r : List (Nat × Bool)} {T : List Value} {D : List Deferred} {w : World} {f : FuncId} {args : Array Value} (hF : ∀ f, F.fn f) (hdep : F.depth.isSome = false) (hi : ops[i]? = some o) (hd : o.dst = some d) (hC : C w) (hw : Region.wanted o (yielded ops T.toArray) = true) (hnd : ∀ c, o.op ≠ .defer c)
    (hr : (execOp (Act.eval { tmps := T.toArray, defers := D }) o).run P w = .ok (.enter f args) w) (h : CallsIn F (n - 1) P f args w fun e w' => ∃ v, e = .returned v ∧ wpH F n P ops Q C r { tmps := (T.set d v).toArray, defers := D } w') : wpH F n P ops Q C ((i, false) :: r) { tmps := T.toArray, defers := D } w :=
  wpH_do hi hC hw (fun K hK => wpIn_call hF hdep hnd hr (h.mono fun e w' ⟨v, he, hk⟩ => ⟨v, he, hK _ _ (by rw [hd]; simpa [Act.put] using hk)⟩))
theorem wpIn_store {o : Oper} {a : Act} {K : Act → World → Prop} {w w' : World} (hF : ∀ f, F.fn f) (hnd : ∀ c, o.op ≠ .defer c) (hr : (execOp a.eval o).run P w = .ok .skip w') (h : K (a.put o.dst undef) w') : o.wpIn F n P a w K Q := by
  refine ⟨fun f _ => hF f, ?_⟩
  rw [Oper.semAt_plain F _ _ hnd, hr]
  exact h
theorem wpH_storeL {i : Nat} {o : Oper} {r : List (Nat × Bool)} {a : Act} {w w' : World} (hF : ∀ f, F.fn f) (hi : ops[i]? = some o) (hd : o.dst = none) (hC : C w) (hw : Region.wanted o (yielded ops a.tmps) = true) (hnd : ∀ c, o.op ≠ .defer c)
    (hr : (execOp a.eval o).run P w = .ok .skip w') (h : wpH F n P ops Q C r a w') : wpH F n P ops Q C ((i, false) :: r) a w :=
  wpH_do hi hC hw (fun K hK => wpIn_store hF hnd hr (hK _ _ (by rw [hd]; exact h)))
theorem wpH_end {a : Act} {w : World} (hC : C w) (h : Q .normal a w) : wpH F n P ops (NoPanic Q) C [] a w := ⟨hC, h⟩
end
end Go.Proofs.Ytmkhhnhoodneeaa
