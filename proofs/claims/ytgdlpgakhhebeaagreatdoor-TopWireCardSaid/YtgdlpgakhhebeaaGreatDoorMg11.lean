/- Part 11 of the proof of TopWire: Hoist, Sgm, Cob, WTab, WFour, WFootNe, WAt, WEqStruct, WRepsOne. -/
import Derived.Deep.RegionHeld3
import Derived.KernelRfl
import Derived.Laws.StructEq
import Derived.OrdersIn
import Derived.OwnWalkIn
import Derived.Test.YtgdlpgakhhebeaaGreatDoorMg01
import Derived.Test.YtgdlpgakhhebeaaGreatDoorMg02
import Derived.Test.YtgdlpgakhhebeaaGreatDoorMg05
import Derived.Test.YtgdlpgakhhebeaaGreatDoorMg10
section
set_option linter.unusedVariables false
namespace Go.Proofs.YtgdlpgakhhebeaaGreatDoor
open Go

section
variable {F : Fence} {n : Nat} {P : Program} {ops : Array Oper} {Q : Exit → Act → World → Prop} {md : Region.Mode} {C : World → Prop}

/-- What a reading operation may come to. -/
def readUpon (w : World) (v : Value) : Result Next → Prop
  | .ok (.value u) w' => w' = w ∧ u = v
  | .ok .skip w' => w' = w ∧ v = undef
  | _ => False
/-- In every world of C the operation o leaves v, and the world. -/
def YieldsC (P : Program) (ops : Array Oper) (C : World → Prop) (o : Oper) (v : Value) (a : Act) : Prop :=
  (Region.wanted o (yielded ops a.tmps) = true ∧ ∀ w, C w → readUpon w v ((execOp a.eval o).run P w)) ∨ (Region.wanted o (yielded ops a.tmps) = false ∧ v = undef)
/-- Whatever order is picked from here on, all worlds on the way being of C. -/
def wpAnyC (F : Fence) (n : Nat) (P : Program) (md : Region.Mode) (ops : Array Oper) (Q : Exit → Act → World → Prop) (C : World → Prop) : Nat → Array Bool → Act → World → Prop
  | 0, listed, a, w => C w ∧ Region.ready md ops listed = [] ∧ Q .normal a w
  | fuel + 1, listed, a, w => C w ∧ (Region.ready md ops listed = [] → Q .normal a w) ∧ ∀ i ∈ Region.ready md ops listed, wpOpIn F n P ops Q i (wpAnyC F n P md ops Q C fuel (listed.setIfInBounds i true)) a w
theorem wpAnyC.class : ∀ {fuel : Nat} {listed : Array Bool} {a : Act} {w : World}, wpAnyC F n P md ops Q C fuel listed a w → C w
  | 0, _, _, _, h => h.1
  | _ + 1, _, _, _, h => h.1
theorem wpAnyIn_of_C : ∀ (fuel : Nat) (listed : Array Bool) (a : Act) (w : World), wpAnyC F n P md ops Q C fuel listed a w → wpAnyIn F n P md ops Q fuel listed a w
  | 0, _, _, _, h => h.2
  | fuel + 1, _, _, _, h => ⟨h.2.1, fun i hi => wpOpIn_mono (fun a w => wpAnyIn_of_C fuel _ a w) (h.2.2 i hi)⟩

def noDeferB (ops : Array Oper) : Bool := ops.all fun o => match o.op with | .defer _ => false | _ => true
theorem noDefer_spec (h : noDeferB ops = true) (j : Nat) (o : Oper) (ho : ops[j]? = some o) : ∀ c, o.op ≠ .defer c := by
  intro c hc
  obtain ⟨hlt, rfl⟩ := Array.getElem?_eq_some_iff.1 ho
  have := Array.all_eq_true.1 h j hlt
  rw [hc] at this
  cases this

theorem YieldsC.of_same {o : Oper} {v : Value} {a a' : Act} (hy : YieldsC P ops C o v a) (he : execOp a'.eval o = execOp a.eval o)
    (hw : Region.wanted o (yielded ops a'.tmps) = Region.wanted o (yielded ops a.tmps)) : YieldsC P ops C o v a' := by
  unfold YieldsC at *
  rw [he, hw]
  exact hy
theorem YieldsC.wpOpIn (hF : ∀ f, F.fn f) (hdf : noDeferB ops = true) {i : Nat} {o : Oper} {v : Value} {a : Act} (hi : ops[i]? = some o) (hy : YieldsC P ops C o v a) {K : Act → World → Prop} {w : World} (hC : C w) (h : K (a.put o.dst v) w) : wpOpIn F n P ops Q i K a w := by
  unfold Go.wpOpIn
  simp only [hi]
  rcases hy with ⟨hw, hv⟩ | ⟨hw, rfl⟩
  · simp only [hw, if_true, Oper.wpIn]
    refine ⟨fun f _ => hF f, ?_⟩
    rw [Oper.semAt_plain F _ _ (noDefer_spec hdf i o hi)]
    have h3 := hv w hC
    generalize (execOp a.eval o).run P w = r at *
    cases r with
    | halt x w' => exact h3.elim
    | ok x w' =>
      cases x <;> simp only [readUpon] at h3
      case value u => obtain ⟨rfl, rfl⟩ := h3; exact h
      case skip => obtain ⟨rfl, rfl⟩ := h3; exact h
  · simp only [hw, Bool.false_eq_true, if_false]; exact ⟨fun f _ => hF f, h⟩

theorem wpOpIn_putC (hdf : noDeferB ops = true) {j : Nat} {oi oj : Oper} {v : Value} (hj : ops[j]? = some oj) (hap : oi.apart ops oj = true)
    (hsi : ∀ cs b, oi.op ≠ .select cs b) (hsj : ∀ cs b, oj.op ≠ .select cs b)
    (hQ : ∀ c a w, ¬ Q (.panic c) a w) {K : Act → World → Prop} {a : Act} {w : World}
    (hy : YieldsC P ops C oi v a) (h : wpOpIn F n P ops Q j K (a.put oi.dst v) w) :
    wpOpIn F n P ops Q j (fun a' w' => YieldsC P ops C oi v a' ∧ K (a'.put oi.dst v) w') a w := by
  obtain ⟨h1, h2, h3⟩ := Oper.apart_spec hap
  have keep : ∀ (a : Act), YieldsC P ops C oi v a → ∀ u, YieldsC P ops C oi v (a.put oj.dst u) := fun a hy u =>
    hy.of_same (execOp_put oi hsi a oj.dst u h3) (wanted_put oi a oj.dst u h3)
  have keepD : ∀ d, YieldsC P ops C oi v { a with defers := d :: a.defers } := fun d => hy.of_same rfl rfl
  have hnd := noDefer_spec hdf j oj hj
  unfold wpOpIn at *
  simp only [hj] at *
  rw [wanted_put oj a oi.dst v h1, about_put oj w a oi.dst v h1] at h
  split
  · rename_i hw
    simp only [hw, if_true] at h
    unfold Oper.wpIn at *
    rw [about_put oj w a oi.dst v h1] at h
    refine ⟨h.1, ?_⟩
    have h := h.2
    rw [Oper.semAt_plain F _ _ hnd, execOp_put oj hsj a oi.dst v h1] at h
    rw [Oper.semAt_plain F _ _ hnd]
    generalize (execOp a.eval oj).run P w = r at *
    cases r with
    | ok x w' =>
      cases x <;> simp only [Oper.uponIn] at h ⊢
      case value u => exact ⟨keep a hy u, by rw [← Act.put_comm a v u h2]; exact h⟩
      case skip => exact ⟨keep a hy _, by rw [← Act.put_comm a v undef h2]; exact h⟩
      case defer d =>
        refine ⟨keep _ (keepD d) _, ?_⟩
        rw [← Act.put_comm _ v undef h2, ← Act.put_defers]
        exact h
      case enter f args =>
        refine ⟨h.1, CallsIn.mono h.2 fun e w'' he => ?_⟩
        cases e with
        | returned u => exact ⟨keep a hy u, by rw [← Act.put_comm a v u h2]; exact he⟩
        | panicked c => exact (hQ _ _ _ he).elim
        | outgrown => exact he
      case row row args => exact ⟨h.1, RowsIn.mono h.2 fun u w'' he => ⟨keep a hy u, by rw [← Act.put_comm a v u h2]; exact he⟩⟩
      case round l f tmps assign body =>
        refine ⟨h.1, RoundIn.mono h.2 fun e w'' he => ?_⟩
        cases e with
        | returned u => exact ⟨keep a hy u, by rw [← Act.put_comm a v u h2]; exact he⟩
        | panicked c => exact (hQ _ _ _ he).elim
        | outgrown => exact he
    | halt x w' =>
      cases x <;> simp only [Oper.uponIn] at h ⊢
      case panic u => exact (hQ _ _ _ h).elim
  · rename_i hw
    simp only [hw] at h
    exact ⟨h.1, keep a hy _, by rw [← Act.put_comm a v undef h2]; exact h.2⟩

theorem wpAnyC_first (hF : ∀ f, F.fn f) (hdf : noDeferB ops = true) {i : Nat} {oi : Oper} {v : Value} (hi : ops[i]? = some oi) (hsel : ∀ (j : Nat) (o : Oper) cs b, ops[j]? = some o → o.op ≠ .select cs b)
    (hQ : ∀ c a w, ¬ Q (.panic c) a w) :
    ∀ (fuel : Nat) (listed : Array Bool) (a : Act) (w : World),
      (∀ j oj, ops[j]? = some oj → j ≠ i → listed.getD j true = false → (∀ e ∈ oj.after, Region.binds md e = true → e.on ≠ i) → oi.apart ops oj = true) →
      i ∈ Region.ready md ops listed → YieldsC P ops C oi v a →
      wpAnyC F n P md ops Q C fuel (listed.setIfInBounds i true) (a.put oi.dst v) w → wpAnyC F n P md ops Q C (fuel + 1) listed a w := by
  intro fuel
  induction fuel with
  | zero =>
    intro listed a w _ hr hy H
    refine ⟨H.1, fun h => (by rw [h] at hr; cases hr), fun j hj => ?_⟩
    by_cases hji : j = i
    · subst hji; exact hy.wpOpIn hF hdf hi H.1 H
    · have := ready_mono hj hji
      rw [H.2.1] at this
      cases this
  | succ fuel ih =>
    intro listed a w hfree hr hy H
    refine ⟨H.1, fun h => (by rw [h] at hr; cases hr), fun j hj => ?_⟩
    by_cases hji : j = i
    · subst hji; exact hy.wpOpIn hF hdf hi H.1 H
    · have h1 := H.2.2 j (ready_mono hj hji)
      obtain ⟨hjun, oj, hoj, hall⟩ := mem_ready.1 hj
      have hnot : ∀ e ∈ oj.after, Region.binds md e = true → e.on ≠ i := fun e he hb heq => by
        have h1 := hall e he hb
        have h0 := (mem_ready.1 hr).1
        rw [heq] at h1
        rcases Nat.lt_or_ge i listed.size with h' | h'
        · simp [h'] at h0 h1; rw [h0] at h1; cases h1
        · simp [Array.getElem?_eq_none h'] at h1
      have h2 := wpOpIn_putC hdf hoj (hfree j oj hoj hji hjun hnot) (fun cs b => hsel i oi cs b hi) (fun cs b => hsel j oj cs b hoj) hQ hy h1
      have hfree' : ∀ k ok, ops[k]? = some ok → k ≠ i → (listed.setIfInBounds j true).getD k true = false →
          (∀ e ∈ ok.after, Region.binds md e = true → e.on ≠ i) → oi.apart ops ok = true := fun k ok hk hki hun hno => by
        refine hfree k ok hk hki ?_ hno
        by_cases hjk : j = k
        · subst hjk; exact hjun
        · rw [getD_set_ne true hjk] at hun; exact hun
      refine wpOpIn_mono (fun a' w' h3 => ih (listed.setIfInBounds j true) a' w' hfree' (ready_mono hr (Ne.symm hji)) h3.1 ?_) h2
      rw [Array.setIfInBounds_comm _ _ hji]
      exact h3.2

/-- The walk in our order: (number, does it only read?). -/
def wpH (F : Fence) (n : Nat) (P : Program) (ops : Array Oper) (Q : Exit → Act → World → Prop) (C : World → Prop) : List (Nat × Bool) → Act → World → Prop
  | [], a, w => C w ∧ Q .normal a w
  | (i, true) :: r, a, w => ∃ o v, ops[i]? = some o ∧ YieldsC P ops C o v a ∧ wpH F n P ops Q C r (a.put o.dst v) w
  | (i, false) :: r, a, w => C w ∧ wpOpIn F n P ops Q i (wpH F n P ops Q C r) a w
def hoistB (md : Region.Mode) (ops : Array Oper) : List (Nat × Bool) → Array Bool → Bool
  | [], listed => (Region.ready md ops listed).isEmpty
  | (i, true) :: r, listed => (Region.ready md ops listed).contains i && Region.free md ops listed i && hoistB md ops r (listed.setIfInBounds i true)
  | (i, false) :: r, listed => Region.ready md ops listed == [i] && hoistB md ops r (listed.setIfInBounds i true)
theorem wpAnyC_of_H (hF : ∀ f, F.fn f) (hdf : noDeferB ops = true) (hs : Region.noSelect ops = true) (hQ : ∀ c a w, ¬ Q (.panic c) a w) : ∀ (l : List (Nat × Bool)) (listed : Array Bool) (a : Act) (w : World), hoistB md ops l listed = true → wpH F n P ops Q C l a w → wpAnyC F n P md ops Q C l.length listed a w
  | [], listed, a, w, hB, h => ⟨h.1, by simpa [hoistB] using hB, h.2⟩
  | (i, true) :: r, listed, a, w, hB, h => by
    simp only [hoistB, Bool.and_eq_true] at hB
    obtain ⟨o, v, hi, hy, hK⟩ := h
    exact wpAnyC_first hF hdf hi (Region.noSelect_spec hs) hQ r.length listed a w (Region.free_spec hi hB.1.2) (by simpa using hB.1.1) hy (wpAnyC_of_H hF hdf hs hQ r _ _ _ hB.2 hK)
  | (i, false) :: r, listed, a, w, hB, h => by
    simp only [hoistB, Bool.and_eq_true, beq_iff_eq] at hB
    show C w ∧ (Region.ready md ops listed = [] → Q .normal a w) ∧ ∀ i ∈ Region.ready md ops listed, wpOpIn F n P ops Q i (wpAnyC F n P md ops Q C r.length (listed.setIfInBounds i true)) a w
    refine ⟨h.1, fun h0 => (by rw [hB.1] at h0; cases h0), fun j hj => ?_⟩
    rw [hB.1] at hj
    obtain rfl : j = i := by simpa using hj
    exact wpOpIn_mono (fun a w hw => wpAnyC_of_H hF hdf hs hQ r _ _ _ hB.2 hw) h.2
/-- THE RULE. -/
theorem wpIn_region_hoist (l : List (Nat × Bool)) (C : World → Prop) {id : Nat} {L : List Oper} {Q : Exit → Act → World → Prop} {a : Act} {w : World} (hF : ∀ f, F.fn f) (hm : P.follows .mixedOrders = true)
    (hB : (noDeferB L.toArray && Region.noSelect L.toArray && (l.length == L.toArray.size) && hoistB .any L.toArray l (Array.replicate L.toArray.size false)) = true)
    (h : wpH F n P L.toArray (NoPanic Q) C l a w.drew) : (Code.region id L.toArray true).wpIn F n P Q a w := by
  simp only [Bool.and_eq_true, beq_iff_eq] at hB
  refine wpIn_mono (Q := NoPanic Q) (wpIn_region_any hm ?_) NoPanic.imp
  have := wpAnyIn_of_C _ _ _ _ (wpAnyC_of_H hF hB.1.1.1 hB.1.1.2 (fun c a w h => h) l _ a w.drew hB.2 h)
  rw [hB.1.2] at this
  exact this
/-- The same outside of all fences. -/
theorem wp_region_hoist (l : List (Nat × Bool)) (C : World → Prop) {id : Nat} {L : List Oper} {Q : Exit → Act → World → Prop} {a : Act} {w : World} (hm : P.follows .mixedOrders = true)
    (hB : (noDeferB L.toArray && Region.noSelect L.toArray && (l.length == L.toArray.size) && hoistB .any L.toArray l (Array.replicate L.toArray.size false)) = true)
    (h : wpH Fence.wide 0 P L.toArray (NoPanic Q) C l a w.drew) : (Code.region id L.toArray true).wp P Q a w :=
  (wpIn_wide (n := 0)).1 (wpIn_region_hoist l C (fun _ => trivial) hm hB h)

/-- Steps. -/
theorem wpH_read {i : Nat} {o : Oper} {r : List (Nat × Bool)} {a : Act} {w : World} (v : Value) (hi : ops[i]? = some o) (hw : Region.wanted o (yielded ops a.tmps) = true) (hv : ∀ w', C w' → readUpon w' v ((execOp a.eval o).run P w'))
    (h : wpH F n P ops Q C r (a.put o.dst v) w) : wpH F n P ops Q C ((i, true) :: r) a w := ⟨o, v, hi, .inl ⟨hw, hv⟩, h⟩
theorem wpH_do {i : Nat} {o : Oper} {r : List (Nat × Bool)} {a : Act} {w : World} (hi : ops[i]? = some o) (hC : C w) (hw : Region.wanted o (yielded ops a.tmps) = true)
    (h : ∀ K : Act → World → Prop, (∀ a w, wpH F n P ops Q C r a w → K a w) → o.wpIn F n P a w K Q) : wpH F n P ops Q C ((i, false) :: r) a w := by
  refine ⟨hC, ?_⟩
  unfold wpOpIn
  rw [hi]
  simp only [hw, if_true]
  exact h _ (fun _ _ h => h)
/-- The same, the frame written out. -/
theorem wpH_readL {i d : Nat} {o : Oper} {r : List (Nat × Bool)} {T : List Value} {D : List Deferred} {w : World} (v : Value) (hi : ops[i]? = some o) (hd : o.dst = some d) (hw : Region.wanted o (yielded ops T.toArray) = true) (hv : ∀ w', C w' → readUpon w' v ((execOp (Act.eval { tmps := T.toArray, defers := D }) o).run P w'))
    (h : wpH F n P ops Q C r { tmps := (T.set d v).toArray, defers := D } w) : wpH F n P ops Q C ((i, true) :: r) { tmps := T.toArray, defers := D } w :=
  wpH_read v hi hw hv (by rw [hd]; simpa [Act.put] using h)
/-- An operation whose run is known. -/
theorem wpIn_value {o : Oper} {a : Act} {K : Act → World → Prop} {w w' : World} {v : Value} (hF : ∀ f, F.fn f) (hnd : ∀ c, o.op ≠ .defer c) (hr : (execOp a.eval o).run P w = .ok (.value v) w') (h : K (a.put o.dst v) w') : o.wpIn F n P a w K Q := by
  refine ⟨fun f _ => hF f, ?_⟩
  rw [Oper.semAt_plain F _ _ hnd, hr]
  exact h
theorem wpIn_call {o : Oper} {a : Act} {K : Act → World → Prop} {w : World} {f : FuncId} {args : Array Value} (hF : ∀ f, F.fn f) (hd : F.depth.isSome = false) (hnd : ∀ c, o.op ≠ .defer c) (hr : (execOp a.eval o).run P w = .ok (.enter f args) w) (h : CallsIn F (n - 1) P f args w fun e w' => ∃ v, e = .returned v ∧ K (a.put o.dst v) w') : o.wpIn F n P a w K Q := by
  refine ⟨fun f _ => hF f, ?_⟩
  rw [Oper.semAt_plain F _ _ hnd, hr]
  exact ⟨fun h => (by rw [hd] at h; cases h), h.mono (fun e w' ⟨v, he, hk⟩ => by subst he; exact hk)⟩
/-- The same as steps, the frame written out. -/
theorem wpH_valueL {i d : Nat} {o : Oper} {r : List (Nat × Bool)} {T : List Value} {D : List Deferred} {w w' : World} (v : Value) (hF : ∀ f, F.fn f) (hi : ops[i]? = some o) (hd : o.dst = some d) (hC : C w) (hw : Region.wanted o (yielded ops T.toArray) = true) (hnd : ∀ c, o.op ≠ .defer c)
    (hr : (execOp (Act.eval { tmps := T.toArray, defers := D }) o).run P w = .ok (.value v) w') (h : wpH F n P ops Q C r { tmps := (T.set d v).toArray, defers := D } w') : wpH F n P ops Q C ((i, false) :: r) { tmps := T.toArray, defers := D } w :=
  wpH_do hi hC hw (fun K hK => wpIn_value hF hnd hr (hK _ _ (by rw [hd]; simpa [Act.put] using h)))
theorem wpH_callL {i d : Nat} {o : Oper} {r : List (Nat × Bool)} {T : List Value} {D : List Deferred} {w : World} {f : FuncId} {args : Array Value} (hF : ∀ f, F.fn f) (hdep : F.depth.isSome = false) (hi : ops[i]? = some o) (hd : o.dst = some d) (hC : C w) (hw : Region.wanted o (yielded ops T.toArray) = true) (hnd : ∀ c, o.op ≠ .defer c)
    (hr : (execOp (Act.eval { tmps := T.toArray, defers := D }) o).run P w = .ok (.enter f args) w) (h : CallsIn F (n - 1) P f args w fun e w' => ∃ v, e = .returned v ∧ wpH F n P ops Q C r { tmps := (T.set d v).toArray, defers := D } w') : wpH F n P ops Q C ((i, false) :: r) { tmps := T.toArray, defers := D } w :=
  wpH_do hi hC hw (fun K hK => wpIn_call hF hdep hnd hr (h.mono fun e w' ⟨v, he, hk⟩ => ⟨v, he, hK _ _ (by rw [hd]; simpa [Act.put] using hk)⟩))
theorem wpIn_store {o : Oper} {a : Act} {K : Act → World → Prop} {w w' : World} (hF : ∀ f, F.fn f) (hnd : ∀ c, o.op ≠ .defer c) (hr : (execOp a.eval o).run P w = .ok .skip w') (h : K (a.put o.dst undef) w') : o.wpIn F n P a w K Q := by
  refine ⟨fun f _ => hF f, ?_⟩
  rw [Oper.semAt_plain F _ _ hnd, hr]
  exact h
theorem wpH_end {a : Act} {w : World} (hC : C w) (h : Q .normal a w) : wpH F n P ops (NoPanic Q) C [] a w := ⟨hC, h⟩
end
end Go.Proofs.YtgdlpgakhhebeaaGreatDoor
end
section
set_option linter.unusedVariables false
set_option linter.unusedSimpArgs false
namespace Go.Proofs.YtgdlpgakhhebeaaGreatDoor
open Go.RowKit Go.Proofs.YtgdlpgakhhebeaaGreatDoorW.PrintWords Go.Proofs.YtgdlpgakhhebeaaGreatDoorW.PrintMore
attribute [local go_sem] Oper.semAt_some
attribute [local go_sem] max2_int min2_int max_two min_two max_three min_three max_four min_four

theorem exec_app {P : Program} {w w1 : World} {ev : Operand → Value} {o : Oper} {v1 : Value} {s x : Operand} {t : TypeId} (hop : o.op = .call { callee := .builtin .append, args := #[s, x], argTypes := #[t, t] })
    (hrun : (Builtin.append_ #[t, t] o.type #[ev s, ev x]).run P w = .ok v1 w1) : (execOp ev o).run P w = .ok (.value v1) w1 := by
  simp [execOp, hop, resolve, invoke, builtin, hrun]

/-- A frame's segment. -/
def segm (T : Nat → Int) (h : Hd) (pl : List Int) : List Int := enc (blks (sealed T (h.bytes ++ pl)))
set_option maxRecDepth 100000 in
set_option maxHeartbeats 4000000 in
theorem segment_call (h : Hd) (hok : h.ok) (w : World) (cp : Addr) (k off : Nat) (T : Nat → Int) (hcp : w.cell? cp = some (.pointer (some ⟨k, off, none⟩))) (hT : Tbl w k off T) (A : Option Addr) (c : Nat) (pl : List Int) (hr : Kd.C (Kd.int .u8) w A pl.length pl) (hc : pl.length ≤ c) (hl0 : 0 < pl.length) (hl1 : pl.length ≤ 242) :
    Calls Tryz.prog 83 #[.pointer (some cp), .agg (h.frame (.slice A pl.length c))] w fun e w' => ∃ v : Value, e = .returned (.tuple #[v, .int .i64 0]) ∧ Kd.R (Kd.int .u8) 5 w' w.heap.size (fun _ => True) v (segm T h pl) ∧ Below w.heap.size w w' := by
  have hcc := codecCheck_call h hok
  have hhb := headBytes_call h hok
  obtain ⟨m, hm⟩ : ∃ m, pl.length = m := ⟨_, rfl⟩
  have HR := Lib.hid hr
  have HT := Lib.hid hT
  have HCP := Lib.hid hcp
  have HM := Lib.hid hm
  rw [hm] at hc hl0 hl1 ⊢
  have hbl : h.bytes.length = 8 := rfl
  have hval : h.val = .agg #[.int .i64 h.v, .int .i64 h.k, .int .u32 h.s, .int .i64 h.i, .int .i64 h.n] := rfl
  have hfr : ∀ x, h.frame x = #[.int .i64 h.v, .int .i64 h.k, .int .u32 h.s, .int .i64 h.i, .int .i64 h.n, x] := fun _ => rfl
  have hbt : segm T h pl = enc (blks (sealed T (h.bytes ++ pl))) := rfl
  rw [hfr, hbt]
  simp only [hfr] at hcc
  rw [hval] at hhb
  generalize h.bytes = hb8 at *
  clear hval hfr hbt hr hT hcp hm
  go_enter Tryz.func83, Tryz.ntmps83
  go_wp2_with (fail)
  refine (hcc _ _ _ _ _ hl0 hl1).mono ?_
  rintro e w2 ⟨rfl, hb2⟩
  clear hcc
  have hB : (w.alloc (.cells #[.int .i64 h.v, .int .i64 h.k, .int .u32 h.s, .int .i64 h.i, .int .i64 h.n, .slice A m c] 133)).heap[w.heap.size]? = some (.cells #[.int .i64 h.v, .int .i64 h.k, .int .u32 h.s, .int .i64 h.i, .int .i64 h.n, .slice A m c] 133) := World.alloc_heap_new w _
  have hB2 := (hb2.block w.heap.size (by simp)).trans hB
  have c0 : w2.cell? ⟨w.heap.size, 0, none⟩ = some (.int .i64 h.v) := cell_at hB2 rfl
  have c1 : w2.cell? ⟨w.heap.size, 1, none⟩ = some (.int .i64 h.k) := cell_at hB2 rfl
  have c2 : w2.cell? ⟨w.heap.size, 2, none⟩ = some (.int .u32 h.s) := cell_at hB2 rfl
  have c3 : w2.cell? ⟨w.heap.size, 3, none⟩ = some (.int .i64 h.i) := cell_at hB2 rfl
  have c4 : w2.cell? ⟨w.heap.size, 4, none⟩ = some (.int .i64 h.n) := cell_at hB2 rfl
  have HB := Lib.hid (((Below.refl _ w).alloc (Nat.le_refl _) _).trans (hb2.mono (by simp)))
  have hs2 : w.heap.size < w2.heap.size := by have := hb2.size; simp at this; omega
  have HB2 := Lib.hid hB2
  clear hb2 hB hB2
  go_wp2_with (fail)
  refine (hhb _).mono ?_
  rintro e w3 ⟨b, rfl, hC8, hb3⟩
  clear hhb c0 c1 c2 c3 c4
  have HB3 := Lib.hid (HB.out.trans (hb3.mono HB.out.size))
  have hBx := (hb3.block w.heap.size hs2).trans HB2.out
  have HBX := Lib.hid hBx
  have HC8 := Lib.hid hC8
  have hcpb : w3.cell? cp = some (.pointer (some ⟨k, off, none⟩)) := Below_cell HB3.out HCP.out
  have hpl : w3.cell? ⟨w.heap.size, 5, none⟩ = some (.slice A m c) := cell_at hBx rfl
  clear hC8 hb3 hBx
  go_wp2_with (fail)
  have hC0 : w3.drew.cell? cp = some (.pointer (some ⟨k, off, none⟩)) ∧ w3.drew.cell? ⟨w.heap.size, 5, none⟩ = some (.slice A m c) := ⟨hcpb, hpl⟩
  refine wp_region_hoist [(0, true), (1, true), (2, true), (3, true), (4, true), (5, true), (6, true), (10, true), (7, false), (8, false), (9, false), (11, true), (12, true)] (fun w' => w'.cell? cp = some (.pointer (some ⟨k, off, none⟩)) ∧ w'.cell? ⟨w.heap.size, 5, none⟩ = some (.slice A m c)) (by kernel_rfl) (by kernel_rfl) ?_
  iterate 8 (apply wpH_readL _ rfl rfl rfl; (· (intro w' hw'; obtain ⟨r1, r2⟩ := hw'; go_simp; exact ⟨rfl, rfl⟩)); simp only [List.set_cons_zero, List.set_cons_succ])
  obtain ⟨v1, w4, hrun, hR1, hg1⟩ := run_app_grow (P := Tryz.prog) (W := w3.drew) (t := 25) (e := 5) (ty := 25) (c1 := 8) (c := c) (xs := hb8) (ys := pl) .u8 Tryz.underlying25 infoB (ad := ⟨b, 0, none⟩) (A := A) (by rw [hbl]; exact Kd.C_drew HC8.out) (by rw [HM.out]; exact Kd.C_drew (HM.out ▸ Kd.C_below HR.out HB3.out)) (by rw [HM.out]; exact hl0) (by rw [hbl, HM.out]; omega) (by simp only [maxLen]; rw [hbl, HM.out]; omega) (by rw [hbl, HM.out]; omega) (fun _ => True) (fun _ _ => trivial)
  rw [hbl, HM.out] at hrun
  have hb4 : Below w3.heap.size w3 w4 := (Below.refl _ w3).drew.grown hg1 (Nat.le_refl _) (fun _ e => by cases e)
  have hC4 : w4.cell? cp = some (.pointer (some ⟨k, off, none⟩)) ∧ w4.cell? ⟨w.heap.size, 5, none⟩ = some (.slice A m c) := ⟨Below_cell hb4 hC0.1, Below_cell hb4 hC0.2⟩
  apply wpH_valueL v1 (fun _ => trivial) rfl rfl hC0 rfl (fun c h => by cases h) (exec_app rfl hrun)
  simp only [List.set_cons_zero, List.set_cons_succ]
  obtain ⟨A1, c1, hc1, e1, hCb⟩ : ∃ A1 c1, (hb8 ++ pl).length ≤ c1 ∧ v1 = .slice A1 (hb8 ++ pl).length c1 ∧ (Kd.int .u8).C w4 A1 (hb8 ++ pl).length (hb8 ++ pl) := by
    obtain ⟨A1, c1, e, h1, h2⟩ := Kd.R_reads hR1
    exact ⟨A1, c1, h1, e, h2⟩
  have hT4 := HT.out.below (HB3.out.trans (hb4.mono HB3.out.size))
  have hse := crcSeal_call w4 k off T hT4 A1 c1 (hb8 ++ pl) hCb hc1 (by rw [List.length_append, hbl, HM.out]; omega)
  subst e1
  apply wpH_callL (f := 135) (args := #[.pointer (some ⟨k, off, none⟩), .slice A1 (hb8 ++ pl).length c1]) (fun _ => trivial) rfl rfl rfl hC4 rfl (fun c h => by cases h) (by kernel_rfl)
  refine callsIn_wide.2 (hse.mono ?_)
  rintro e w5 ⟨v2, rfl, hR2, hb5⟩
  refine ⟨v2, rfl, ?_⟩
  simp only [List.set_cons_zero, List.set_cons_succ]
  have hC5 : w5.cell? cp = some (.pointer (some ⟨k, off, none⟩)) ∧ w5.cell? ⟨w.heap.size, 5, none⟩ = some (.slice A m c) := ⟨Below_cell hb5 hC4.1, Below_cell hb5 hC4.2⟩
  obtain ⟨A2, c2, e2, hc2, hCs⟩ := Kd.R_reads hR2
  subst e2
  have hslen : (sealed T (hb8 ++ pl)).length = m + 12 := by simp [sealed, hbl, HM.out]; omega
  have hen := Ext.cobs_Encode.calls A2 c2 (sealed T (hb8 ++ pl)) _ w5 hCs hc2 (by unfold Ext.cobs_Encode.f; rw [if_pos (by rw [hslen]; omega)])
  apply wpH_callL (f := 134) (args := #[.slice A2 (sealed T (hb8 ++ pl)).length c2]) (fun _ => trivial) rfl rfl rfl hC5 rfl (fun c h => by cases h) (by kernel_rfl)
  refine callsIn_wide.2 (hen.mono ?_)
  rintro e w6 ⟨v3, rfl, hR3, hb6⟩
  refine ⟨v3, rfl, ?_⟩
  simp only [List.set_cons_zero, List.set_cons_succ]
  have hC6 : w6.cell? cp = some (.pointer (some ⟨k, off, none⟩)) ∧ w6.cell? ⟨w.heap.size, 5, none⟩ = some (.slice A m c) := ⟨Below_cell hb6 hC5.1, Below_cell hb6 hC5.2⟩
  have hw4 : w.heap.size ≤ w4.heap.size := Nat.le_trans HB3.out.size hb4.size
  have hw5 : w.heap.size ≤ w5.heap.size := Nat.le_trans hw4 hb5.size
  have HFIN := Lib.hid (And.intro (Kd.R_lower hR3 hw5) (((HB3.out.trans (hb4.mono HB3.out.size)).trans (hb5.mono hw4)).trans (hb6.mono hw5)))
  iterate 2 (apply wpH_readL _ rfl rfl rfl; (· (intro w' hw'; obtain ⟨r1, r2⟩ := hw'; go_simp; exact ⟨rfl, rfl⟩)); simp only [List.set_cons_zero, List.set_cons_succ])
  refine wpH_end hC6 ?_
  clear hse hen hR1 hR2 hR3 hb4 hb5 hb6 hrun hg1 hCb hCs
  go_wp2_with (fail)
  exact bodyPost_ret (v := .tuple #[v3, .int .i64 0]) (by simp [results, Tryz.results83, go_sem]) rfl ⟨_, rfl, HFIN.out.1, HFIN.out.2⟩
end Go.Proofs.YtgdlpgakhhebeaaGreatDoor
end
section
set_option linter.unusedVariables false
set_option linter.unusedSimpArgs false
namespace Go.Proofs.YtgdlpgakhhebeaaGreatDoor
open Go.RowKit

theorem lead_all : ∀ (p r : List Int), 0 ∉ p → lead (p ++ r) = p.length + lead r
  | [], r, _ => by simp
  | c :: p, r, h => by
    have hc : c ≠ 0 := fun e => h (by simp [e])
    have := lead_all p r (fun m => h (by simp [m]))
    simp [lead, hc, this]; omega
theorem lead_no : ∀ (l : List Int), lead l = l.length → 0 ∉ l
  | [], _ => by simp
  | c :: r, h => by
    unfold lead at h
    split at h
    · simp at h
    · rename_i hc
      have := lead_no r (by simpa using h)
      intro m
      rcases List.mem_cons.1 m with e | e
      · exact hc e.symm
      · exact this e
theorem lead_take : ∀ (l : List Int) (n : Nat), n ≤ lead l → 0 ∉ l.take n
  | _, 0, _ => by simp
  | [], n + 1, h => by simp
  | c :: r, n + 1, h => by
    unfold lead at h
    split at h
    · omega
    · rename_i hc
      have := lead_take r n (by omega)
      intro m
      rw [List.take_succ_cons] at m
      rcases List.mem_cons.1 m with e | e
      · exact hc e.symm
      · exact this e
theorem lead_zero : ∀ (l : List Int), lead l < l.length → l = l.take (lead l) ++ 0 :: l.drop (lead l + 1)
  | [], h => by simp at h
  | c :: r, h => by
    unfold lead at h ⊢
    split
    · rename_i hc; simp [hc]
    · rename_i hc
      rw [if_neg hc] at h
      have := lead_zero r (by simpa using h)
      rw [List.take_succ_cons, List.drop_succ_cons, List.cons_append, ← this]

theorem blks_zero (p r : List Int) (h0 : 0 ∉ p) (hp : p.length < 254) : blks (p ++ 0 :: r) = p :: blks r := by
  have hl : lead (p ++ 0 :: r) = p.length := by rw [lead_all p _ h0]; simp [lead]
  have hb : blk (p ++ 0 :: r) = (p.length, p.length + 1, true) := by
    unfold blk; rw [hl, if_pos ⟨hp, by simp⟩]
  rw [blks_at, hb]
  simp [show (p ++ 0 :: r).drop (p.length + 1) = r by rw [← List.drop_drop]; simp]
theorem blks_full (p r : List Int) (h0 : 0 ∉ p) (hp : p.length = 254) (hr : r ≠ []) : blks (p ++ r) = p :: blks r := by
  have hl : lead (p ++ r) = p.length + lead r := lead_all p _ h0
  have hrl : 0 < r.length := List.length_pos_iff.2 hr
  have hb : blk (p ++ r) = (254, 254, true) := by
    unfold blk; rw [hl, if_neg (by omega), if_pos (by simp; omega)]
    simp; omega
  rw [blks_at, hb]
  simp [show (p ++ r).take 254 = p by rw [← hp]; simp, show (p ++ r).drop 254 = r by rw [← hp]; simp]
theorem blks_last (l : List Int) (h0 : 0 ∉ l) (hl : l.length ≤ 254) : blks l = [l] := by
  have h1 : lead l = l.length := by have := lead_all l [] h0; simpa [lead] using this
  have hb : blk l = (l.length, l.length, false) := by
    unfold blk; rw [h1, if_neg (by omega)]
    split
    · have : l.length = 254 := by omega
      simp [this]
    · rfl
  rw [blks_at, hb]
  simp
theorem blks_cases (l : List Int) : (∃ p r, l = p ++ 0 :: r ∧ 0 ∉ p ∧ p.length < 254 ∧ blks l = p :: blks r) ∨ (∃ p r, l = p ++ r ∧ 0 ∉ p ∧ p.length = 254 ∧ r ≠ [] ∧ blks l = p :: blks r) ∨ (0 ∉ l ∧ l.length ≤ 254 ∧ blks l = [l]) := by
  have hle := lead_le l
  by_cases h1 : lead l < 254
  · by_cases h2 : lead l < l.length
    · have e := lead_zero l h2
      have n0 := lead_take l (lead l) (Nat.le_refl _)
      have np : (l.take (lead l)).length < 254 := by rw [List.length_take]; omega
      exact .inl ⟨_, _, e, n0, np, by
        have := blks_zero (l.take (lead l)) (l.drop (lead l + 1)) n0 np
        rw [← e] at this; exact this⟩
    · have h3 : lead l = l.length := by omega
      have := lead_no l h3
      exact .inr (.inr ⟨this, by omega, blks_last l this (by omega)⟩)
  · by_cases h2 : l.length = 254
    · have := lead_no l (by omega)
      exact .inr (.inr ⟨this, by omega, blks_last l this (by omega)⟩)
    · have n0 := lead_take l 254 (by omega)
      have np : (l.take 254).length = 254 := by rw [List.length_take]; omega
      have nr : l.drop 254 ≠ [] := by
        intro e; have := congrArg List.length e; rw [List.length_drop] at this; simp at this; omega
      have := blks_full (l.take 254) (l.drop 254) n0 np nr
      rw [List.take_append_drop] at this
      exact .inr (.inl ⟨_, _, (List.take_append_drop 254 l).symm, n0, np, nr, this⟩)
/-- Induction over blocks. -/
theorem blks_ind {P : List Int → Prop} (hz : ∀ p r, 0 ∉ p → p.length < 254 → blks (p ++ 0 :: r) = p :: blks r → P r → P (p ++ 0 :: r)) (hf : ∀ p r, 0 ∉ p → p.length = 254 → r ≠ [] → blks (p ++ r) = p :: blks r → P r → P (p ++ r)) (hl : ∀ l, 0 ∉ l → l.length ≤ 254 → blks l = [l] → P l) (l : List Int) : P l := by
  have : ∀ (n : Nat) (l : List Int), l.length ≤ n → P l := by
    intro n
    induction n with
    | zero =>
      intro l h
      have : l = [] := List.length_eq_zero_iff.1 (by omega)
      subst this
      exact hl [] (by simp) (by simp) (blks_last [] (by simp) (by simp))
    | succ n ih =>
      intro l h
      rcases blks_cases l with ⟨p, r, rfl, h0, hp, hb⟩ | ⟨p, r, rfl, h0, hp, hr, hb⟩ | ⟨h0, hp, hb⟩
      · exact hz p r h0 hp hb (ih r (by simp at h; omega))
      · exact hf p r h0 hp hr hb (ih r (by simp at h; omega))
      · exact hl l h0 hp hb
  exact this l.length l (Nat.le_refl _)

theorem szs_ge (l : List Int) : l.length + 1 ≤ szs (blks l) := by
  refine blks_ind (P := fun l => l.length + 1 ≤ szs (blks l)) ?_ ?_ ?_ l
  · intro p r h0 hp hb ih; rw [hb]; simp [szs]; omega
  · intro p r h0 hp hr hb ih; rw [hb]; simp [szs]; omega
  · intro l h0 hp hb; rw [hb]; simp [szs]
theorem szs_most (l : List Int) : szs (blks l) ≤ l.length + max 1 ((l.length + 253) / 254) := by
  refine blks_ind (P := fun l => szs (blks l) ≤ l.length + max 1 ((l.length + 253) / 254)) ?_ ?_ ?_ l
  · intro p r h0 hp hb ih; rw [hb]; simp [szs]; omega
  · intro p r h0 hp hr hb ih; have := List.length_pos_iff.2 hr; rw [hb]; simp [szs]; omega
  · intro l h0 hp hb; rw [hb]; simp [szs]; omega
/-- A segment has as many bytes as the payload and 13 more. -/
theorem segm_len (T : Nat → Int) (h : Hd) (pl : List Int) (hl : pl.length ≤ 242) : (segm T h pl).length = pl.length + 13 := by
  have hs : (sealed T (h.bytes ++ pl)).length = pl.length + 12 := by simp [sealed, Hd.bytes]
  unfold segm
  rw [enc_len]
  have h1 := szs_ge (sealed T (h.bytes ++ pl))
  have h2 := szs_most (sealed T (h.bytes ++ pl))
  rw [hs] at h1 h2
  have h3 : (pl.length + 12 + 253) / 254 ≤ 1 := by omega
  omega
end Go.Proofs.YtgdlpgakhhebeaaGreatDoor
end
section
/-! ### 50. A region's order in a table, made once a region: each step asks the table (numbers alone), not the operations -/
namespace Go.Proofs.YtgdlpgakhhebeaaGreatDoorW.PrintLast
open Go.Proofs.YtgdlpgakhhebeaaGreatDoorW.PrintWords (Aside0)
def needsOf (md : Region.Mode) (o : Oper) : List Nat := (o.after.toList.filter (fun e => Region.binds md e)).map (fun e => e.on)
def clashOf (md : Region.Mode) (ops : Array Oper) (i : Nat) (oi : Oper) : List Nat := (List.range ops.size).filter fun j => !(j == i) && match ops[j]? with
  | some oj => !(oj.after.any (fun e => Region.binds md e && e.on == i) || oi.apart ops oj)
  | none => false
/-- No select in it; for each operation: what must have come up before it, and what may not come up behind it if it is taken first. -/
def rtab (md : Region.Mode) (ops : Array Oper) : Bool × List (List Nat × List Nat) := (Region.noSelect ops, (List.range ops.size).map fun i => match ops[i]? with
  | some o => (needsOf md o, clashOf md ops i o)
  | none => ([], []))
def readyAt (T : List (List Nat × List Nat)) (l : List Bool) (i : Nat) : Bool := !l.getD i true && match T[i]? with
  | some r => r.1.all (fun j => l.getD j false)
  | none => false
def readyT (T : List (List Nat × List Nat)) (l : List Bool) : List Nat := (List.range T.length).filter (readyAt T l)
def freeT (T : List (List Nat × List Nat)) (l : List Bool) (i : Nat) : Bool := match T[i]? with
  | some r => r.2.all (fun j => l.getD j true)
  | none => false
def closedT (T : List (List Nat × List Nat)) (l : List Bool) : Bool := (List.range T.length).all fun j => !l.getD j false || match T[j]? with
  | some r => r.1.all (fun k => l.getD k false)
  | none => true
def reachT (T : List (List Nat × List Nat)) (i : Nat) : Nat → Nat → Bool
  | 0, _ => false
  | fuel + 1, d => match T[d]? with
    | some r => r.1.any fun j => j == i || reachT T i fuel j
    | none => false
def lastT (T : List (List Nat × List Nat)) (l : List Bool) (ds : List Nat) (i : Nat) : Bool := ds.all fun d => l.getD d true || reachT T i T.length d
section
variable {md : Region.Mode} {ops : Array Oper} {T : Bool × List (List Nat × List Nat)} {l l' li lj lk : Array Bool} {ds : List Nat} {i j k : Nat}
theorem gd (l : Array Bool) (j : Nat) (b : Bool) : l.getD j b = l.toList.getD j b := by simp [Array.getD_eq_getD_getElem?, List.getD_eq_getElem?_getD]
def anyT (T : Bool × List (List Nat × List Nat)) (l l' : List Bool) (i : Nat) : Bool := T.1 && freeT T.2 l i && readyAt T.2 l i && (l.set i true == l')
def takeT (T : Bool × List (List Nat × List Nat)) (ds : List Nat) (l l' : List Bool) (i : Nat) : Bool := T.1 && freeT T.2 l i && readyAt T.2 l i && closedT T.2 l && lastT T.2 l ds i && (l.set i true == l')
/-- What d waits for, as_ bits: told in the table (B), checked in one pass: each bit is a need of d, or a bit of an earlier need's. -/
def upM (B : List Nat) (d : Nat) : List Nat → Nat
  | [] => 0
  | n :: r => (2 ^ n ||| (if n < d then B.getD n 0 else 0)) ||| upM B d r
def waitsOk (T : List (List Nat × List Nat)) (B : List Nat) : Bool := (List.range T.length).all fun d => match T[d]? with
  | some r => (B.getD d 0 ||| upM B d r.1) == upM B d r.1
  | none => false
def lastW (T : List (List Nat × List Nat)) (B : List Nat) (l : List Bool) (ds : List Nat) (i : Nat) : Bool := ds.all fun d => l.getD d true || (decide (d < T.length) && (B.getD d 0).testBit i)
def takeW (T : Bool × List (List Nat × List Nat)) (B : List Nat) (ds : List Nat) (l l' : List Bool) (i : Nat) : Bool := T.1 && freeT T.2 l i && readyAt T.2 l i && closedT T.2 l && lastW T.2 B l ds i && (l.set i true == l')
end
/-- The operations of a region, by its number. -/
def opsIn : Code → Nat → Option (Array Oper)
  | .region id ops _, k => if id == k then some ops else none
  | .seq a b, k => match opsIn a k with
    | some o => some o
    | none => opsIn b k
  | .cond _ a b, k => match opsIn a k with
    | some o => some o
    | none => opsIn b k
  | .block _ c, k => opsIn c k
  | .loop c, k => opsIn c k
  | .scope c, k => opsIn c k
  | .rangeFunc _ _ a b, k => match opsIn a k with
    | some o => some o
    | none => opsIn b k
  | _, _ => none
def opsOf (f : Func) (k : Nat) : Array Oper := ((f.body.bind fun c => opsIn c k)).getD #[]
end Go.Proofs.YtgdlpgakhhebeaaGreatDoorW.PrintLast
end
section
/-! ### 56. Four, five, six operations that may come up next, in any order -/
namespace Go.Proofs.YtgdlpgakhhebeaaGreatDoorW.PrintLast
section
variable {P : Program} {ops : Array Oper} {Q : Exit → Act → World → Prop} {md : Region.Mode} {S : World → Prop} {ds : List Nat} {T : Bool × List (List Nat × List Nat)}
end
end Go.Proofs.YtgdlpgakhhebeaaGreatDoorW.PrintLast
end
section
/-! ### 52. A row that stays read whatever happens to a block (a set of blocks) doesn't lie there -/
namespace Go.Proofs.YtgdlpgakhhebeaaGreatDoorW.PrintWords
open Go.RowKit
namespace Kd
section
variable {α : Type} {d : Kd α} {W : World} {g n : Nat} {S ok : Nat → Prop} {A : Option Addr} {ad : Addr} {xs : List α}
end
end Kd
end Go.Proofs.YtgdlpgakhhebeaaGreatDoorW.PrintWords
end
section
/-! ### 54. Behind orders that were drawn quietly: the same facts at the world's new name; a flat row's foot -/
namespace Go.Proofs.YtgdlpgakhhebeaaGreatDoorW.PrintWords
open Go.RowKit
section
variable {w w' u : World} {m B g : Nat} {o : Obj} {row : Option Nat} {S : Nat → Prop} {a : Addr} {v : Value}
theorem cell_at (hq : w.drewN m = w') (h : w.cell? a = some v) : w'.cell? a = some v := by subst hq; exact h
end
namespace Kd
section
variable {α : Type} {d : Kd α} {e base n m : Nat} {ok : Nat → Prop} {w w' : World} {v : Value} {A : Option Addr} {xs : List α}
end
end Kd
end Go.Proofs.YtgdlpgakhhebeaaGreatDoorW.PrintWords
end
section
/-! ### 53. '==' of structs as_ one Bool -/
namespace Go.Proofs.YtgdlpgakhhebeaaGreatDoorW.PrintWords
open Go.RowKit
section
variable {P : Program} {d : Nat} {xs ys : Array Value} {f : Field} {fs : List Field} {a b : Value} {r s : Bool} {w : World}
/-- The last field that counts. -/
theorem eqf_last (hn : (f.name == "_") = false) (ha : (part f.type xs f.offset).run P w = .ok a w) (hb : (part f.type ys f.offset).run P w = .ok b w) (he : (Op.equalIn d f.type a b).run P w = .ok r w) : (Op.eqFields d xs ys [f]).run P w = .ok r w := by
  have hn' : f.name ≠ "_" := by simpa using hn
  simp only [Op.eqFields, if_pos hn', Sem.run_bind, ha, hb, he, Result.andThen_ok]
  cases r <;> simp
theorem eqf_cons (hn : (f.name == "_") = false) (ha : (part f.type xs f.offset).run P w = .ok a w) (hb : (part f.type ys f.offset).run P w = .ok b w) (he : (Op.equalIn d f.type a b).run P w = .ok r w) (hr : (Op.eqFields d xs ys fs).run P w = .ok s w) : (Op.eqFields d xs ys (f :: fs)).run P w = .ok (r && s) w := by
  have hn' : f.name ≠ "_" := by simpa using hn
  rw [Op.eqFields]
  simp only [if_pos hn', Sem.run_bind, ha, hb, he, Result.andThen_ok]
  cases r
  · simp
  · simpa using hr
theorem eqA_of {t : TypeId} {fs : Array Field} (hu : P.underlying t = some (.struct fs)) (hp : P.stoodInHeld t = false) (h : (Op.eqFields d xs ys fs.toList).run P w = .ok r w) : (Op.equalIn (d + 1) t (.agg xs) (.agg ys)).run P w = .ok r w := by
  have hf : P.fieldsOf t = fs := by simp [Program.fieldsOf, hu]
  rw [run_equalIn_struct (P := P) w d t xs ys (by rw [hf]; exact hu) hp, hf]
  exact h
end
end Go.Proofs.YtgdlpgakhhebeaaGreatDoorW.PrintWords
end
section
/-! ### 55. Reps told from the front, no append: for rows of one-cell elements and of wider ones -/
namespace Go.Proofs.YtgdlpgakhhebeaaGreatDoorW.PrintWords
/-- One cell an element. -/
theorem Reps.one {α : Type} {R : α → List Value → Prop} {ps : List α} {cs : List Value} {p : α} {v : Value} (hp : R p [v]) (h : Reps R 1 ps cs) : Reps R 1 (p :: ps) (v :: cs) := by
  refine ⟨by simp [h.1], fun j q hq => ?_⟩
  cases j with
  | zero =>
    simp only [List.getElem?_cons_zero, Option.some.injEq] at hq
    subst hq
    simpa using hp
  | succ j =>
    simp only [List.getElem?_cons_succ] at hq
    have h1 := h.2 j q hq
    simpa [Nat.mul_one] using h1
/-- More cells an element: told apart by the cells' list. -/
theorem Reps.front {α : Type} {R : α → List Value → Prop} {size : Nat} {ps : List α} {cs c all : List Value} {p : α} (hp : R p c) (hc : c.length = size) (h : Reps R size ps cs) (ha : c ++ cs = all) : Reps R size (p :: ps) all := by
  subst ha
  refine ⟨by rw [List.length_append, hc, h.1, List.length_cons, Nat.succ_mul, Nat.add_comm], fun j q hq => ?_⟩
  cases j with
  | zero =>
    simp only [List.getElem?_cons_zero, Option.some.injEq] at hq
    subst hq
    rw [Nat.zero_mul, List.drop_zero, List.take_append_of_le_length (by omega), List.take_of_length_le (by omega)]
    exact hp
  | succ j =>
    simp only [List.getElem?_cons_succ] at hq
    have h1 := h.2 j q hq
    rw [Nat.succ_mul, List.drop_append, List.drop_of_length_le (by rw [hc]; exact Nat.le_add_left _ _), List.nil_append, hc, Nat.add_sub_cancel]
    exact h1
theorem Reps.c2 {α : Type} {R : α → List Value → Prop} {ps : List α} {cs : List Value} {p : α} {va vb : Value} (hp : R p [va, vb]) (h : Reps R 2 ps cs) : Reps R 2 (p :: ps) (va :: vb :: cs) := Reps.front hp rfl h rfl
theorem Reps.c3 {α : Type} {R : α → List Value → Prop} {ps : List α} {cs : List Value} {p : α} {va vb vc : Value} (hp : R p [va, vb, vc]) (h : Reps R 3 ps cs) : Reps R 3 (p :: ps) (va :: vb :: vc :: cs) := Reps.front hp rfl h rfl
theorem Reps.c4 {α : Type} {R : α → List Value → Prop} {ps : List α} {cs : List Value} {p : α} {va vb vc vd : Value} (hp : R p [va, vb, vc, vd]) (h : Reps R 4 ps cs) : Reps R 4 (p :: ps) (va :: vb :: vc :: vd :: cs) := Reps.front hp rfl h rfl
theorem Reps.c5 {α : Type} {R : α → List Value → Prop} {ps : List α} {cs : List Value} {p : α} {va vb vc vd ve : Value} (hp : R p [va, vb, vc, vd, ve]) (h : Reps R 5 ps cs) : Reps R 5 (p :: ps) (va :: vb :: vc :: vd :: ve :: cs) := Reps.front hp rfl h rfl
theorem Reps.c6 {α : Type} {R : α → List Value → Prop} {ps : List α} {cs : List Value} {p : α} {va vb vc vd ve vf : Value} (hp : R p [va, vb, vc, vd, ve, vf]) (h : Reps R 6 ps cs) : Reps R 6 (p :: ps) (va :: vb :: vc :: vd :: ve :: vf :: cs) := Reps.front hp rfl h rfl
theorem Reps.c7 {α : Type} {R : α → List Value → Prop} {ps : List α} {cs : List Value} {p : α} {va vb vc vd ve vf vg : Value} (hp : R p [va, vb, vc, vd, ve, vf, vg]) (h : Reps R 7 ps cs) : Reps R 7 (p :: ps) (va :: vb :: vc :: vd :: ve :: vf :: vg :: cs) := Reps.front hp rfl h rfl
theorem Reps.c8 {α : Type} {R : α → List Value → Prop} {ps : List α} {cs : List Value} {p : α} {va vb vc vd ve vf vg vh : Value} (hp : R p [va, vb, vc, vd, ve, vf, vg, vh]) (h : Reps R 8 ps cs) : Reps R 8 (p :: ps) (va :: vb :: vc :: vd :: ve :: vf :: vg :: vh :: cs) := Reps.front hp rfl h rfl
theorem Reps.c9 {α : Type} {R : α → List Value → Prop} {ps : List α} {cs : List Value} {p : α} {va vb vc vd ve vf vg vh vi : Value} (hp : R p [va, vb, vc, vd, ve, vf, vg, vh, vi]) (h : Reps R 9 ps cs) : Reps R 9 (p :: ps) (va :: vb :: vc :: vd :: ve :: vf :: vg :: vh :: vi :: cs) := Reps.front hp rfl h rfl
theorem Reps.c10 {α : Type} {R : α → List Value → Prop} {ps : List α} {cs : List Value} {p : α} {va vb vc vd ve vf vg vh vi vj : Value} (hp : R p [va, vb, vc, vd, ve, vf, vg, vh, vi, vj]) (h : Reps R 10 ps cs) : Reps R 10 (p :: ps) (va :: vb :: vc :: vd :: ve :: vf :: vg :: vh :: vi :: vj :: cs) := Reps.front hp rfl h rfl
end Go.Proofs.YtgdlpgakhhebeaaGreatDoorW.PrintWords
end
