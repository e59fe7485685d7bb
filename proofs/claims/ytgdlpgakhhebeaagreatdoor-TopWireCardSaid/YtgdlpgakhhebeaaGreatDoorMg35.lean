/- Part 35 of the proof of TopWire: Evza, Evzb, Lva, Lvb. -/
import Derived.KernelRfl
import Derived.Test.YtgdlpgakhhebeaaGreatDoorMg34
import Derived.Test.YtgdlpgakhhebeaaGreatDoorProg
section
set_option linter.unusedVariables false
namespace Go.Proofs.YtgdlpgakhhebeaaGreatDoor.Ev
open Go
noncomputable section

theorem bytesEq_inj {a b : ByteArray} (h : bytesEq a.data.toList b.data.toList = true) : a = b := by
  rw [bytesEq_eq, beq_iff_eq] at h
  apply ByteArray.ext
  exact Array.toList_inj.1 h
theorem all2_eq {f : Nat} (ih : ∀ a b, veq f a b = true → a = b) : ∀ (x y : List Value), veq.all2 f x y = true → x = y
  | [], [], h => rfl
  | [], b :: y, h => by simp [veq.all2] at h
  | a :: x, [], h => by simp [veq.all2] at h
  | a :: x, b :: y, h => by
    simp only [veq.all2, Bool.and_eq_true] at h
    rw [ih a b h.1, all2_eq ih x y h.2]
theorem veq_eq : ∀ (f : Nat) (a b : Value), veq f a b = true → a = b := by
  intro f
  induction f with
  | zero =>
    intro a b h
    unfold veq at h
    split at h <;> first
      | (cases h; done)
      | rfl
      | (rename_i x y; cases x <;> cases y <;> first | rfl | cases h)
      | (simp only [Bool.and_eq_true] at h; obtain ⟨h1, h2⟩ := h; rw [kindEq_eq h1]; rw [intEq_eq, beq_iff_eq] at h2; rw [h2])
      | (rw [bytesEq_inj h])
      | (simp only [Bool.and_eq_true, Nat.beq_eq] at h; obtain ⟨rfl, rfl⟩ := h; rfl)
      | (simp only [Bool.and_eq_true, Nat.beq_eq] at h; obtain ⟨rfl, rfl, rfl, rfl⟩ := h; rfl)
      | (simp only [Nat.beq_eq] at h; subst h; rfl)
      | skip
    all_goals (rename_i hh _; first | (cases hh; done) | skip)
    all_goals omega
  | succ f ih =>
    intro a b h
    unfold veq at h
    split at h <;> first
      | (cases h; done)
      | rfl
      | (rename_i x y; cases x <;> cases y <;> first | rfl | cases h)
      | (simp only [Bool.and_eq_true] at h; obtain ⟨h1, h2⟩ := h; rw [kindEq_eq h1]; rw [intEq_eq, beq_iff_eq] at h2; rw [h2])
      | (rw [bytesEq_inj h])
      | (simp only [Bool.and_eq_true, Nat.beq_eq] at h; obtain ⟨rfl, rfl⟩ := h; rfl)
      | (simp only [Bool.and_eq_true, Nat.beq_eq] at h; obtain ⟨rfl, rfl, rfl, rfl⟩ := h; rfl)
      | (simp only [Nat.beq_eq] at h; subst h; rfl)
      | skip
    · rename_i g x y hh
      cases hh
      congr 1
      exact Array.toList_inj.1 (all2_eq ih _ _ h)
    · rename_i g x y hh
      cases hh
      congr 1
      exact Array.toList_inj.1 (all2_eq ih _ _ h)
    · rename_i g x y z u w hh
      cases hh
      simp only [Bool.and_eq_true, Nat.beq_eq] at h
      obtain ⟨rfl, h2, h3⟩ := h
      rw [Array.toList_inj.1 (all2_eq ih _ _ h2), Array.toList_inj.1 (all2_eq ih _ _ h3)]
/-! ### The plan -/
theorem optEq_iff {a : Option Tmp} {b : Nat} : optEq a b = true ↔ a = some b := by
  cases a with
  | none => simp [optEq]
  | some x => simp [optEq, Nat.beq_eq]
theorem distinct_spec : ∀ (l : List (Option Tmp)) (i k t : Nat), distinct l = true → l[i]? = some (some t) → l[k]? = some (some t) → i = k
  | [], i, k, t, h, hi, hk => by cases hi
  | x :: r, i, k, t, h, hi, hk => by
    have tail : distinct r = true := by
      cases x with
      | none => exact h
      | some y => simp only [distinct, Bool.and_eq_true] at h; exact h.2
    have head : ∀ (m : Nat), x = some t → r[m]? = some (some t) → False := fun m hx hm => by
      subst hx
      simp only [distinct, Bool.and_eq_true] at h
      have := List.all_eq_true.1 h.1 _ (List.mem_of_getElem? hm)
      rw [optEq_iff.2 rfl] at this
      cases this
    cases i with
    | zero =>
      cases k with
      | zero => rfl
      | succ k => exact (head k (by simpa using hi) (by simpa using hk)).elim
    | succ i =>
      cases k with
      | zero => exact (head i (by simpa using hk) (by simpa using hi)).elim
      | succ k => rw [distinct_spec r i k t tail (by simpa using hi) (by simpa using hk)]
theorem readOk_spec (k : Nat) (o : Oper) (t : Nat) : ∀ (ops : List Oper) (is : List Info) (b : Nat), readOk k o t ops is b = true → ∀ (i : Nat) (q : Oper) (inf : Info), ops[i]? = some q → is[i]? = some inf → q.dst = some t →
    b + i = k ∨ (∃ e ∈ o.after.toList, bindsB e = true ∧ e.on = b + i) ∨ inf.mask.testBit k = true
  | [], is, b, h, i, q, inf, hi, hj, hq => by cases hi
  | p :: ops, [], b, h, i, q, inf, hi, hj, hq => by cases hj
  | p :: ops, x :: is, b, h, i, q, inf, hi, hj, hq => by
    simp only [readOk, Bool.and_eq_true] at h
    cases i with
    | zero =>
      cases hi; cases hj
      have h1 := h.1
      rw [optEq_iff.2 hq] at h1
      simp only [Bool.not_true, Bool.false_or, Bool.or_eq_true, List.any_eq_true, Bool.and_eq_true, Nat.beq_eq] at h1
      rcases h1 with (h1 | ⟨e, he, hb, h1⟩) | h1
      · exact .inl h1
      · exact .inr (.inl ⟨e, he, hb, h1⟩)
      · exact .inr (.inr h1)
    | succ i =>
      have := readOk_spec k o t ops is (b + 1) h.2 i q inf hi hj hq
      rw [show b + 1 + i = b + (i + 1) by omega] at this
      exact this
theorem readsOk_spec (k : Nat) (o : Oper) (ops : List Oper) (is : List Info) : ∀ (xs : List Operand), readsOk k o ops is xs = true → ∀ t, Operand.tmp t ∈ xs → readOk k o t ops is 0 = true
  | [], h, t, ht => by cases ht
  | x :: xs, h, t, ht => by
    rcases List.mem_cons.1 ht with rfl | ht
    · simp only [readsOk, Bool.and_eq_true] at h; exact h.1
    · refine readsOk_spec k o ops is xs ?_ t ht
      cases x with
      | tmp u => simp only [readsOk, Bool.and_eq_true] at h; exact h.2
      | const u => exact h
      | global u => exact h
      | func u => exact h
theorem allReads_spec (ops : List Oper) (is : List Info) : ∀ (rest : List Oper) (b : Nat), allReads ops is rest b = true → ∀ (i : Nat) (o : Oper), rest[i]? = some o → readsOk (b + i) o ops is o.op.operands.toList = true
  | [], b, h, i, o, hi => by cases hi
  | x :: rest, b, h, i, o, hi => by
    simp only [allReads, Bool.and_eq_true] at h
    cases i with
    | zero => cases hi; exact h.1
    | succ i =>
      have := allReads_spec ops is rest (b + 1) h.2 i o hi
      rw [show b + 1 + i = b + (i + 1) by omega] at this
      exact this
/-- The first ones and no others. -/
theorem prefix_count {α : Type} (f : α → Bool) (E : List α) (h : (E.take (E.filter f).length).all f = true) (q : Nat) (x : α) (hq : E[q]? = some x) : f x = true ↔ q < (E.filter f).length := by
  constructor
  · intro hx
    rcases Nat.lt_or_ge q (E.filter f).length with h1 | h1
    · exact h1
    · exfalso
      have e : E = E.take (E.filter f).length ++ E.drop (E.filter f).length := (List.take_append_drop _ _).symm
      have h2 : (E.filter f).length = ((E.take (E.filter f).length).filter f).length + ((E.drop (E.filter f).length).filter f).length := by
        conv => lhs; rw [e]
        rw [List.filter_append, List.length_append]
      have hle : (E.filter f).length ≤ E.length := List.length_filter_le _ _
      have h3 : ((E.take (E.filter f).length).filter f).length = (E.filter f).length := by
        rw [List.filter_eq_self.2 (fun a ha => List.all_eq_true.1 h a ha), List.length_take]
        omega
      have h4 : ((E.drop (E.filter f).length).filter f).length = 0 := by omega
      have h5 := List.eq_nil_of_length_eq_zero h4
      rw [List.filter_eq_nil_iff] at h5
      refine h5 x ?_ hx
      refine List.mem_of_getElem? (i := q - (E.filter f).length) ?_
      rw [List.getElem?_drop, show (E.filter f).length + (q - (E.filter f).length) = q by omega]
      exact hq
  · intro hx
    refine List.all_eq_true.1 h x (List.mem_of_getElem? (i := q) ?_)
    rw [List.getElem?_take_of_lt hx]
    exact hq
theorem count_ge {α : Type} (f : α → Bool) (E : List α) (j : Nat) (hj : j ≤ E.length) (h : ∀ (q : Nat) (x : α), q < j → E[q]? = some x → f x = true) : j ≤ (E.filter f).length := by
  have e : E = E.take j ++ E.drop j := (List.take_append_drop _ _).symm
  rw [e, List.filter_append, List.length_append]
  have : ((E.take j).filter f).length = j := by
    rw [List.filter_eq_self.2 (fun a ha => ?_), List.length_take]
    · omega
    · obtain ⟨q, hq⟩ := List.mem_iff_getElem?.1 ha
      have hlt : q < j := by
        have := (List.getElem?_eq_some_iff.1 hq).1
        rw [List.length_take] at this
        omega
      rw [List.getElem?_take_of_lt hlt] at hq
      exact h q a hlt hq
  omega
section
variable {P : Program} {rec : Rec}
theorem isVal_eq {v : Value} {r : XRes} (h : isVal v r = true) : ∃ H', r = some (.val v, H') := by
  unfold isVal at h
  split at h
  · rename_i u H'
    exact ⟨H', by rw [veq_eq 9 u v h]⟩
  · cases h
theorem dCheck_spec (ops : List Oper) (effs : List (Nat × Nat)) (Hs : List ASt) : ∀ (rest : List Oper) (is : List Info) (rs : List (T Value × Value)) (b : Nat), dCheck P ops effs Hs rest is rs b = true → ∀ (i : Nat) (o : Oper) (inf : Info) (Si : T Value) (v : Value), rest[i]? = some o → is[i]? = some inf → rs[i]? = some (Si, v) → inf.eff = false → wantedA ops o Si = true →
    ∀ (j : Nat) (Hj : ASt), loOf effs inf.mask ≤ j → j ≤ hiOf effs (b + i) → Hs[j]? = some Hj → ∃ H', aexec P Si Hj o = some (.val v, H')
  | [], is, rs, b, h, i, o, inf, Si, v, h1, h2, h3, h4, h5, j, Hj, h6, h7, h8 => by cases h1
  | x :: rest, [], rs, b, h, i, o, inf, Si, v, h1, h2, h3, h4, h5, j, Hj, h6, h7, h8 => by cases h2
  | x :: rest, y :: is, [], b, h, i, o, inf, Si, v, h1, h2, h3, h4, h5, j, Hj, h6, h7, h8 => by cases h3
  | x :: rest, y :: is, (S, u) :: rs, b, h, i, o, inf, Si, v, h1, h2, h3, h4, h5, j, Hj, h6, h7, h8 => by
    simp only [dCheck, Bool.and_eq_true] at h
    cases i with
    | zero =>
      cases h1; cases h2; cases h3
      have hh := h.1
      rw [h4, h5] at hh
      simp only [Bool.false_or, Bool.not_true] at hh
      refine isVal_eq (List.all_eq_true.1 hh Hj (List.mem_of_getElem? (i := j - loOf effs y.mask) ?_))
      have h7' : j ≤ hiOf effs b := h7
      rw [List.getElem?_take_of_lt (by omega), List.getElem?_drop, show loOf effs y.mask + (j - loOf effs y.mask) = j by omega]
      exact h8
    | succ i =>
      exact dCheck_spec ops effs Hs rest is rs (b + 1) h.2 i o inf Si v h1 h2 h3 h4 h5 j Hj h6 (by rw [show b + 1 + i = b + (i + 1) by omega]; exact h7) h8
theorem isAl_eff {o : Oper} (h : isAl o = true) : isEff P o.op = true := by
  unfold isAl at h
  rw [Bool.and_eq_true] at h
  have h := h.1
  cases hq : o.op <;> rw [hq] at h <;> first | rfl | cases h
theorem opparts_const {S : T Value} : ∀ (ps : List (Nat × Operand)) (l : List (Nat × Value)), (ps.all fun p => isConstO p.2) = true → opparts S ps = some l → (∀ p ∈ l, bare 9 p.2 = true) ∧ ∀ ρ : Operand → Value, (∀ v, ρ (.const v) = v) → ps.map (fun p => (p.1, ρ p.2)) = l
  | [], l, hc, h => by cases h; exact ⟨fun p hp => (by cases hp), fun _ _ => rfl⟩
  | (i, x) :: ps, l, hc, h => by
    simp only [List.all_cons, Bool.and_eq_true] at hc
    unfold opparts at h
    simp only [Option.ob_eq, Option.bind_eq_some_iff] at h
    obtain ⟨v, h1, k, h2, h3⟩ := h
    cases h3
    obtain ⟨q1, q2⟩ := opparts_const ps k hc.2 h2
    cases x with
    | const u =>
      obtain ⟨rfl, hb⟩ := constV_eq h1
      exact ⟨fun p hp => by
        rcases List.mem_cons.1 hp with rfl | hp
        · exact hb
        · exact q1 p hp, fun ρ hρ => by rw [List.map_cons, q2 ρ hρ, hρ]⟩
    | tmp t => cases hc.1
    | global t => cases hc.1
    | func t => cases hc.1
theorem fillL_bare (place : Nat → Option (Nat × Nat)) : ∀ (ps : List (Nat × Value)) (cells l : List Value), fillL place ps cells = some l → (∀ p ∈ ps, bare 9 p.2 = true) → (∀ v ∈ cells, bare 9 v = true) → ∀ v ∈ l, bare 9 v = true
  | [], cells, l, h, hp, hc, v, hv => by cases h; exact hc v hv
  | p :: ps, cells, l, h, hp, hc, v, hv => by
    unfold fillL at h
    simp only [Option.ob_eq, Option.bind_eq_some_iff] at h
    obtain ⟨q, h1, h2⟩ := h
    cases hcd : (Nat.beq p.2.cells.toList.length q.2 && Nat.ble (Nat.add q.1 q.2) cells.length) with
    | false => rw [hcd] at h2; cases h2
    | true =>
    rw [hcd, cond_true] at h2
    refine fillL_bare place ps _ l h2 (fun p' hp' => hp p' (List.mem_cons_of_mem _ hp')) (fun u hu => ?_) v hv
    unfold putL at hu
    rcases List.mem_append.1 hu with hu | hu
    · exact hc u (List.mem_of_mem_take hu)
    · rcases List.mem_append.1 hu with hu | hu
      · exact bare_cells (hp p (List.mem_cons_self ..)) u hu
      · exact hc u (List.mem_of_mem_drop hu)
end
end
end Go.Proofs.YtgdlpgakhhebeaaGreatDoor.Ev
end
section
set_option linter.unusedVariables false
namespace Go.Proofs.YtgdlpgakhhebeaaGreatDoor.Ev
open Go
noncomputable section
section
variable {P : Program} {rec : Rec}
/-- What a variable of its own is. -/
structure Shape where
  cl : List Value
  el : Nat
  sd : Nat
  et : Nat
  mkv : Nat → Value
def ShapeOk (s : Shape) (H H1 : ASt) (v : Value) (P : Program) (o : Oper) : Prop :=
  aadd H s.cl s.el H.next s.sd = some H1 ∧ v = s.mkv H.next ∧ (∀ u ∈ s.cl, bare 9 u = true) ∧ (∀ (a : Act) (W : World), (execOp a.eval o).run P W = .ok (.value (s.mkv W.heap.size)) (W.alloc (.cells s.cl.toArray s.et))) ∧
    (∀ (sg : Nat → Pl) (N b k : Nat), b < N → 0 < b → (sg b).1 = k → (sg b).2 = 0 → VR sg N (s.mkv b) (s.mkv k))
theorem ptr_mk (sg : Nat → Pl) (N b k : Nat) (h1 : b < N) (h2 : 0 < b) (h3 : (sg b).1 = k) (h4 : (sg b).2 = 0) : VR sg N (.pointer (some ⟨b, 0, none⟩)) (.pointer (some ⟨k, 0, none⟩)) := by
  have := VR.ptr (sg := sg) (N := N) b 0 h1
  rw [h3, h4] at this
  exact this
theorem sl_mk (n : Nat) (sg : Nat → Pl) (N b k : Nat) (h1 : b < N) (h2 : 0 < b) (h3 : (sg b).1 = k) (h4 : (sg b).2 = 0) : VR sg N (.slice (some ⟨b, 0, none⟩) n n) (.slice (some ⟨k, 0, none⟩) n n) := by
  have := VR.sl (sg := sg) (N := N) b 0 n n n h1 h2 (Nat.le_refl _) (Nat.le_refl _) (.inl rfl)
  rw [h3, h4] at this
  exact this
theorem alloc_shape {ops : List Oper} {o : Oper} {S : T Value} {H H1 : ASt} {v : Value} (hal : isAl o = true) (h : stepA P rec ops o S H = some (v, H1)) : ∃ s, ShapeOk s H H1 v P o := by
  rcases o with ⟨d, op, ty, ps, af, g⟩
  unfold isAl at hal
  rw [Bool.and_eq_true] at hal
  obtain ⟨hal, hg⟩ := hal
  have hw : wantedA ops ⟨d, op, ty, ps, af, g⟩ S = true := by
    cases g with
    | none => rfl
    | some p => cases hg
  unfold stepA at h
  rw [hw, cond_true] at h
  unfold xop at h
  simp only [Option.ob_eq, Option.bind_eq_some_iff] at h
  obtain ⟨⟨r, H2⟩, h1, h2⟩ := h
  cases op <;> first | (cases hal; done) | skip
  · rename_i t
    obtain ⟨u, h3, rfl⟩ := val_eq (show val (vAlloc t P S H _) = _ from h1)
    cases h2
    unfold vAlloc at h3
    simp only [Option.ob_eq, Option.bind_eq_some_iff] at h3
    obtain ⟨z, h4, h5⟩ := h3
    obtain ⟨i, hi, hz, hb⟩ := zeroV_eq h4
    unfold avar at h5
    split at h5
    case h_2 => cases h5
    rename_i H3 hadd
    cases h5
    refine ⟨⟨z.cells.toList, t, strideOf P t, t, fun b => .pointer (some ⟨b, 0, none⟩)⟩, hadd, rfl, bare_cells hb, fun a W => ?_, ptr_mk⟩
    show (Instr.alloc t true (.tuple #[]) >>= fun x => pure (Next.value x)).run P W = _
    rw [Sem.run_bind]
    have : (Instr.alloc t true (.tuple #[])).run P W = .ok (.pointer (some ⟨W.heap.size, 0, none⟩)) (W.alloc (.cells z.cells.toList.toArray t)) := by
      simp [Instr.alloc, zeroValue, typeInfo, hi, hz, newVar, newRow, newObj, Sem.run]
    rw [this]
    rfl
  · rename_i t n parts
    obtain ⟨u, h3, rfl⟩ := val_eq (show val (vBuildSlice t n parts P S H _) = _ from h1)
    cases h2
    unfold vBuildSlice at h3
    simp only [Option.ob_eq, Option.bind_eq_some_iff] at h3
    obtain ⟨l, h4, h5⟩ := h3
    obtain ⟨q1, q2⟩ := opparts_const _ _ hal h4
    have hparts : ∀ a : Act, (parts.map fun (i, x) => (i, a.eval x)) = l.toArray := fun a => by
      rw [map_parts, q2 a.eval (fun v => rfl)]
    unfold abuildSlice at h5
    simp only [Option.ob_eq, Option.bind_eq_some_iff] at h5
    obtain ⟨e, h6, k, h7, h8⟩ := h5
    obtain ⟨i, hi, rfl⟩ := sizeP_eq h7
    have hd := sliceElem_eq h6
    cases hc : Nat.beq n 0 with
    | true =>
      rw [hc, cond_true] at h8
      have hn : n = 0 := by simpa [Nat.beq_eq] using hc
      subst hn
      unfold abuildSlice0 at h8
      split at h8
      case h_2 => cases h8
      unfold newRowL at h8
      simp only [Option.ob_eq, Option.bind_eq_some_iff] at h8
      obtain ⟨H3, hadd, h9⟩ := h8
      cases h9
      refine ⟨⟨[], e, i.size, e, fun b => .slice (some ⟨b, 0, none⟩) 0 0⟩, hadd, rfl, fun u hu => (by cases hu), fun a W => ?_, sl_mk 0⟩
      show (Instr.buildSlice t 0 (parts.map fun (i, x) => (i, a.eval x)) >>= fun x => pure (Next.value x)).run P W = _
      rw [Sem.run_bind, hparts a]
      have : (Instr.buildSlice t 0 ([] : List (Nat × Value)).toArray).run P W = .ok (.slice (some ⟨W.heap.size, 0, none⟩) 0 0) (W.alloc (.cells ([] : List Value).toArray e)) := by
        simp [Instr.buildSlice, run_underlying hd, sizeOf, typeInfo, hi, Instr.fill, newRow, newObj, Sem.run]
        have e0 : Array.map (fun _ : Nat => (default : Value)) (Array.range 0) = #[] := by apply Array.ext <;> simp
        rw [e0]
      rw [this]
      rfl
    | false =>
      rw [hc, cond_false] at h8
      simp only [Option.ob_eq, Option.bind_eq_some_iff] at h8
      obtain ⟨zl, h9, h10⟩ := h8
      obtain ⟨i', z, hi', hz, hb, rfl⟩ := zeroL_eq h9
      rw [hi] at hi'
      cases hi'
      cases hc2 : (Nat.beq z.cells.toList.length i.size && (Nat.ble (Nat.mul n i.size) 16777216 && Nat.blt 0 (Nat.mul n i.size))) with
      | false => rw [hc2] at h10; cases h10
      | true =>
      rw [hc2, cond_true] at h10
      simp only [Bool.and_eq_true, Nat.beq_eq, Nat.ble_eq, Nat.blt_eq, Nat.mul_eq] at hc2
      obtain ⟨c1, c2, c3⟩ := hc2
      simp only [Option.ob_eq, Option.bind_eq_some_iff] at h10
      obtain ⟨cl, h11, h12⟩ := h10
      unfold newRowL at h12
      simp only [Option.ob_eq, Option.bind_eq_some_iff] at h12
      obtain ⟨H3, hadd, h13⟩ := h12
      cases h13
      have hf := fillL_eq _ _ _ _ h11
      rw [← zeros_eq c1 c3] at hf
      refine ⟨⟨cl, e, i.size, e, fun b => .slice (some ⟨b, 0, none⟩) n n⟩, hadd, rfl, fillL_bare _ _ _ _ h11 q1 (fun v hv => bare_cells hb v (zerosL_mem n v hv)), fun a W => ?_, sl_mk n⟩
      show (Instr.buildSlice t n (parts.map fun (i, x) => (i, a.eval x)) >>= fun x => pure (Next.value x)).run P W = _
      rw [Sem.run_bind, hparts a, run_buildSlice W t e n l.toArray cl.toArray i z hd hi hz (by omega) (by omega) hf]
      rfl
theorem any_after {o : Oper} {f : Edge → Bool} (h : o.after.toList.any f = true) : ∃ e ∈ o.after, f e = true := by
  obtain ⟨e, he, hf⟩ := List.any_eq_true.1 h
  exact ⟨e, by simpa using he, hf⟩
theorem setB_get {S : T Value} {n : Nat} (hn : n < 1000000000000) (d : Nat) (v : Value) (t : Nat) : (bif Nat.blt d n then S.set d v else S).get t = if d = t ∧ t < n then some v else S.get t := by
  cases hb : Nat.blt d n with
  | false =>
    rw [cond_false, if_neg]
    rintro ⟨rfl, ht⟩
    rw [← Nat.blt_eq] at ht
    rw [hb] at ht
    cases ht
  | true =>
    have hdn : d < n := by simpa [Nat.blt_eq] using hb
    rw [cond_true, T.get_set _ _ _ _ (by omega)]
    by_cases e : t = d
    · subst e; rw [if_pos rfl, if_pos ⟨rfl, hdn⟩]
    · rw [if_neg e, if_neg (fun q => e q.1.symm)]
theorem putS_get {S : T Value} {n : Nat} (hn : n < 1000000000000) (d : Option Tmp) (v : Value) (t : Nat) : (putS S n d v).get t = if d = some t ∧ t < n then some v else S.get t := by
  cases d with
  | none => rw [if_neg (fun e => by cases e.1)]; rfl
  | some d =>
    show (T.bi (Nat.blt d n) (S.set d v) S).get t = _
    rw [T.bi_eq, setB_get hn d v t]
    by_cases h : d = t ∧ t < n
    · rw [if_pos h, if_pos ⟨congrArg some h.1, h.2⟩]
    · rw [if_neg h, if_neg (fun q => h ⟨Option.some.inj q.1, q.2⟩)]
/-- The plan out of the run. -/
theorem drawn_plan {ops : Array Oper} {n : Nat} {S S' : T Value} {H H' : ASt} (h : drawn P rec ops.toList n S H = some (S', H')) (hn : n < 1000000000000) : ∃ p, PlanOk p P rec ops n S H S' H' := by
  unfold drawn at h
  simp only [Option.ob_eq, Option.bind_eq_some_iff] at h
  obtain ⟨⟨is, effs⟩, h1, ⟨rs, Hs, S1⟩, h2, h3⟩ := h
  cases hdc : dCheck P ops.toList effs Hs ops.toList is rs 0 with
  | false => rw [hdc] at h3; cases h3
  | true =>
  rw [hdc, cond_true] at h3
  simp only [Option.ob_eq, Option.bind_eq_some_iff] at h3
  obtain ⟨H9, hlast, h4⟩ := h3
  cases h4
  unfold static at h1
  simp only [Option.ob_eq, Option.bind_eq_some_iff] at h1
  obtain ⟨ms, hms, h5⟩ := h1
  cases hst : staticOk ops.toList (infos P ops.toList ms.reverse 0) (effMasks (infos P ops.toList ms.reverse 0) 0) with
  | false => rw [hst] at h5; cases h5
  | true =>
  rw [hst, cond_true] at h5
  cases h5
  obtain ⟨L, e1, e2, e3⟩ := masks_spec ops.toList [] ms hms
  simp only [List.reverse_nil, List.nil_append, List.length_nil, Nat.zero_add] at e1 e3
  generalize his : infos P ops.toList ms.reverse 0 = is at *
  rw [e1] at his
  have hidx : IdxOk is 0 := by rw [← his]; exact infos_idx P _ _ 0
  have hlen : is.length = ops.toList.length := by rw [← his]; exact infos_length P _ _ 0 e2
  have hget : ∀ (i : Nat) (o : Oper), ops[i]? = some o → ∃ inf k, is[i]? = some inf ∧ L[i]? = some k ∧ inf.mask = k ∧ inf.eff = isEff P o.op ∧ inf.al = isAl o ∧ MaskR L o k i := fun i o ho => by
    have ho' : ops.toList[i]? = some o := by simpa using ho
    obtain ⟨k, q1, q2⟩ := e3 i o ho'
    obtain ⟨inf, q3, q4, q5, q6⟩ := infos_get P ops.toList L 0 i o k ho' q1
    rw [his] at q3
    exact ⟨inf, k, q3, q1, q4, q5, q6, q2⟩
  obtain ⟨d1, d2, d3, d4, d5, d6⟩ := dPass_spec ops.toList is 0 S S' H rs Hs h2 hlen.symm hidx (fun i o inf a b => by
    obtain ⟨inf', k, q1, _, _, q4, _⟩ := hget i o (by simpa using a)
    rw [b] at q1
    cases q1
    exact q4)
  unfold staticOk at hst
  simp only [Bool.and_eq_true] at hst
  obtain ⟨⟨⟨st1, st2⟩, st3⟩, st4⟩ := hst
  -- what a step is
  have hstep : ∀ (i : Nat) (o : Oper), ops[i]? = some o → ∃ inf Si v H0 H1, is[i]? = some inf ∧ rs[i]? = some (Si, v) ∧ Hs[inf.idx]? = some H0 ∧ stepA P rec ops.toList o Si H0 = some (v, H1) ∧ Hs[inf.idx + (bif inf.eff then 1 else 0)]? = some H1 ∧
      (∀ Sj vj, rs[i + 1]? = some (Sj, vj) → Sj = putS Si n o.dst v) ∧ (i + 1 = ops.toList.length → S' = putS Si n o.dst v) := fun i o ho => by
    obtain ⟨inf, k, q1, _⟩ := hget i o ho
    obtain ⟨Si, v, H0, H1, r1, _, r3, r4, r5, r6, r7⟩ := d3 i o inf (by simpa using ho) q1
    exact ⟨inf, Si, v, H0, H1, q1, r1, by simpa using r3, r4, by simpa using r5, r6, r7⟩
  have hshape : ∀ i : Nat, ∃ s : Shape, ∀ (o : Oper) (inf : Info) (Si : T Value) (v : Value) (H0 H1 : ASt), ops[i]? = some o → is[i]? = some inf → rs[i]? = some (Si, v) → Hs[inf.idx]? = some H0 → Hs[inf.idx + 1]? = some H1 → isAl o = true → ShapeOk s H0 H1 v P o := fun i => by
    cases ho : ops[i]? with
    | none => exact ⟨⟨[], 0, 0, 0, fun _ => undef⟩, fun o inf Si v H0 H1 h => by cases h⟩
    | some o =>
      by_cases hal : isAl o = true
      · obtain ⟨inf, Si, v, H0, H1, q1, q2, q3, q4, q5, _⟩ := hstep i o ho
        obtain ⟨s, hs⟩ := alloc_shape (P := P) (rec := rec) hal q4
        refine ⟨s, fun o' inf' Si' v' H0' H1' a b c d e f => ?_⟩
        cases a
        rw [q1] at b; cases b
        rw [q2] at c; cases c
        rw [q3] at d; cases d
        obtain ⟨inf2, k, w1, _, _, w4, _⟩ := hget i o ho
        rw [q1] at w1; cases w1
        have heff : inf.eff = true := by rw [w4]; exact isAl_eff hal
        rw [heff, cond_true, e] at q5
        cases q5
        exact hs
      · exact ⟨⟨[], 0, 0, 0, fun _ => undef⟩, fun o' inf Si v H0 H1 a _ _ _ _ f => by cases a; exact absurd f hal⟩
  obtain ⟨sh, hsh⟩ := Classical.skolem.1 hshape
  refine ⟨{ msk := fun i => (L[i]?).getD 0, idx := fun i => ((is[i]?).map (·.idx)).getD 0, m := (effMasks is 0).length, Sk := fun i => ((rs[i]?).map (·.1)).getD S, v := fun i => ((rs[i]?).map (·.2)).getD undef, Hs := fun j => (Hs[j]?).getD H,
            cl := fun i => (sh i).cl, el := fun i => (sh i).el, sd := fun i => (sh i).sd, et := fun i => (sh i).et, mkv := fun i => (sh i).mkv }, ?_⟩
  have hex : ∀ (i : Nat) (inf : Info), is[i]? = some inf → ∃ o, ops[i]? = some o := fun i inf hi => by
    have := (List.getElem?_eq_some_iff.1 hi).1
    rw [hlen] at this
    exact ⟨ops[i]'(by simpa using this), Array.getElem?_eq_getElem (by simpa using this)⟩
  have hHs : ∀ j, j ≤ (effMasks is 0).length → ∃ Hj, Hs[j]? = some Hj := fun j hj => ⟨Hs[j]'(by omega), List.getElem?_eq_getElem (by omega)⟩
  have heffI : ∀ (i : Nat) (o : Oper) (inf : Info), ops[i]? = some o → is[i]? = some inf → isEff P o.op = true → (effMasks is 0)[inf.idx]? = some (i, inf.mask) := fun i o inf ho hi he => by
    obtain ⟨inf', k, q1, _, _, q4, _⟩ := hget i o ho
    rw [hi] at q1; cases q1
    have := (eff_get is 0 0 i inf hidx hi).2 (by rw [q4]; exact he)
    simpa using this
  have slots : ∀ (i : Nat) (Si : T Value) (v : Value), rs[i]? = some (Si, v) → ∀ t, (∀ (k : Nat) (q : Oper) (Sk : T Value) (vk : Value), ops[k]? = some q → rs[k]? = some (Sk, vk) → q.dst = some t → k < i → t < n → Si.get t = some vk) ∧ ((∀ (k : Nat) (q : Oper), ops[k]? = some q → q.dst = some t → ¬ k < i) → Si.get t = S.get t) ∧ (n ≤ t → Si.get t = S.get t) := by
    intro i
    induction i with
    | zero =>
      intro Si v hi t
      have := d4 Si v hi
      subst this
      exact ⟨fun k q Sk vk _ _ _ h => by omega, fun _ => rfl, fun _ => rfl⟩
    | succ i ih =>
      intro Sj vj hj t
      have hlt : i + 1 < rs.length := (List.getElem?_eq_some_iff.1 hj).1
      have ho : ops[i]? = some (ops[i]'(by rw [d1] at hlt; simp at hlt; omega)) := Array.getElem?_eq_getElem _
      generalize (ops[i]'(by rw [d1] at hlt; simp at hlt; omega)) = o at ho
      obtain ⟨inf, Si, v, H0, H1, q1, q2, q3, q4, q5, q6, q7⟩ := hstep i o ho
      have hSj := q6 Sj vj hj
      subst hSj
      obtain ⟨i1, i2, i3⟩ := ih Si v q2 t
      have hput := putS_get (S := Si) hn o.dst v t
      refine ⟨fun k q Sk vk hk hrk hq hki ht => ?_, fun hno => ?_, fun ht => ?_⟩
      · rw [hput]
        by_cases hki' : k = i
        · subst hki'
          rw [ho] at hk; cases hk
          rw [q2] at hrk; cases hrk
          rw [if_pos ⟨hq, ht⟩]
        · rw [if_neg (fun e => hki' (distinct_spec _ k i t st1 (by simp [hk, hq]) (by simp [ho, e.1])))]
          exact i1 k q Sk vk hk hrk hq (by omega) ht
      · rw [hput, if_neg (fun e => hno i o ho e.1 (by omega))]
        exact i2 (fun k q hk hq hki => hno k q hk hq (by omega))
      · rw [hput, if_neg (fun e => absurd e.2 (Nat.not_lt.2 ht))]
        exact i3 ht
  have hrs : ∀ (i : Nat) (o : Oper), ops[i]? = some o → ∃ Si v, rs[i]? = some (Si, v) := fun i o ho => by
    obtain ⟨inf, Si, v, _, _, _, q2, _⟩ := hstep i o ho
    exact ⟨Si, v, q2⟩
  constructor
  · intro i o ho x hx
    obtain ⟨inf, k, q1, q2, q3, q4, q5, q6⟩ := hget i o ho
    simp only [q2, Option.getD_some] at hx
    obtain ⟨e, he, hb, hxx⟩ := q6.1 x hx
    refine ⟨e, by simpa using he, hb, ?_⟩
    rcases hxx with h6 | ⟨m, hm, h6⟩
    · exact .inl h6
    · refine .inr ?_
      simp only [hm, Option.getD_some]
      exact h6
  · intro i o ho e he hb
    obtain ⟨inf, k, q1, q2, q3, q4, q5, q6⟩ := hget i o ho
    obtain ⟨r1, r2⟩ := q6.2 e (by simpa using he) hb
    simp only [q2, Option.getD_some]
    exact ⟨r1, r2⟩
  · intro i k oi ok t hi hk hdi hdk
    exact distinct_spec _ i k t st1 (by simp [hi, hdi]) (by simp [hk, hdk])
  · intro i o ho t ht k q hk hq
    obtain ⟨inf, mk, w1, w2, w3, _⟩ := hget k q hk
    have h6 := allReads_spec ops.toList is ops.toList 0 st2 i o (by simpa using ho)
    rw [Nat.zero_add] at h6
    have h7 := readOk_spec i o t ops.toList is 0 (readsOk_spec i o ops.toList is _ h6 t ht) k q inf (by simpa using hk) w1 hq
    rw [Nat.zero_add] at h7
    rcases h7 with h7 | ⟨e, he, hb, h7⟩ | h7
    · exact .inl h7
    · exact .inr (.inl ⟨e, by simpa using he, hb, h7⟩)
    · refine .inr (.inr ?_)
      simp only [w2, Option.getD_some]
      rw [← w3]
      exact h7
  · intro i o j w ho hg
    have h6 := List.all_eq_true.1 st3 o (List.mem_of_getElem? (i := i) (by simpa using ho))
    rw [hg] at h6
    obtain ⟨e, he, hf⟩ := any_after h6
    rw [Bool.and_eq_true, Nat.beq_eq] at hf
    exact ⟨e, he, hf.1, hf.2⟩
  · intro q hq
    have hq' : q < (effMasks is 0).length := hq
    obtain ⟨i, inf, w1, w2, w3, w4⟩ := eff_conv is 0 0 q _ hidx (List.getElem?_eq_getElem hq')
    obtain ⟨o, ho⟩ := hex i inf w1
    obtain ⟨inf', k, z1, _, _, z4, _⟩ := hget i o ho
    rw [w1] at z1; cases z1
    refine ⟨i, o, ho, by rw [← z4]; exact w2, ?_⟩
    simp only [w1, Option.map_some, Option.getD_some]
    omega
  · intro i o ho he
    obtain ⟨inf, k, w1, _⟩ := hget i o ho
    have := (List.getElem?_eq_some_iff.1 (heffI i o inf ho w1 he)).1
    simp only [w1, Option.map_some, Option.getD_some]
    exact this
  · intro i k oi ok hi hk hei hek he
    obtain ⟨infi, _, w1, _⟩ := hget i oi hi
    obtain ⟨infk, _, w2, _⟩ := hget k ok hk
    simp only [w1, w2, Option.map_some, Option.getD_some] at he
    have z1 := heffI i oi infi hi w1 hei
    have z2 := heffI k ok infk hk w2 hek
    rw [he, z2] at z1
    exact (congrArg Prod.fst (Option.some.inj z1)).symm
  · intro i o ho hal
    obtain ⟨inf, k, w1, w2, w3, w4, w5, _⟩ := hget i o ho
    have h6 := List.all_eq_true.1 st4 inf (List.mem_of_getElem? w1)
    rw [w5, hal, Bool.false_or, Bool.and_eq_true] at h6
    obtain ⟨h6, h7⟩ := h6
    refine ⟨loOf (effMasks is 0) inf.mask, List.length_filter_le _ _, fun q o' hq hqe => ?_, fun he => ?_⟩
    · obtain ⟨infq, _, z1, _⟩ := hget q o' hq
      have := prefix_count (fun e : Nat × Nat => inf.mask.testBit e.1) (effMasks is 0) h6 infq.idx (q, infq.mask) (heffI q o' infq hq z1 hqe)
      simp only [w2, z1, Option.map_some, Option.getD_some]
      rw [← w3]
      exact this
    · rw [w4, he] at h7
      simp only [w1, Option.map_some, Option.getD_some]
      simpa [Nat.beq_eq] using h7
  · intro i o ho he j hj hlow hhi
    obtain ⟨inf, k, w1, w2, w3, w4, w5, _⟩ := hget i o ho
    obtain ⟨inf2, Si, v, H0, H1, q1, q2, q3, q4, q5, _⟩ := hstep i o ho
    rw [w1] at q1; cases q1
    have hj' : j ≤ (effMasks is 0).length := hj
    obtain ⟨Hj, hHj⟩ := hHs j hj'
    have hieff : inf.eff = false := by rw [w4]; exact he
    have hal : isAl o = false := by
      cases hq : isAl o with
      | false => rfl
      | true => rw [isAl_eff hq] at he; cases he
    simp only [q2, hHj, Option.map_some, Option.getD_some]
    cases hw : wantedA ops.toList o Si with
    | false =>
      unfold stepA at q4 ⊢
      rw [hw, cond_false] at q4 ⊢
      rw [(Prod.mk.inj (Option.some.inj q4)).1]
    | true =>
      have h6 := List.all_eq_true.1 st4 inf (List.mem_of_getElem? w1)
      rw [w5, hal, Bool.false_or, Bool.and_eq_true] at h6
      have hlo : loOf (effMasks is 0) inf.mask ≤ j := by
        rcases Nat.lt_or_ge j (loOf (effMasks is 0) inf.mask) with h7 | h7
        · exfalso
          have hle : loOf (effMasks is 0) inf.mask ≤ (effMasks is 0).length := List.length_filter_le _ _
          have hjl : j < (effMasks is 0).length := by omega
          obtain ⟨qi, infq, z1, z2, z3, z4⟩ := eff_conv is 0 0 j _ hidx (List.getElem?_eq_getElem hjl)
          obtain ⟨oq, hoq⟩ := hex qi infq z1
          obtain ⟨inf', _, y1, _, _, y4, _⟩ := hget qi oq hoq
          rw [z1] at y1; cases y1
          have hpc := (prefix_count (fun e : Nat × Nat => inf.mask.testBit e.1) (effMasks is 0) h6.1 j _ (List.getElem?_eq_getElem hjl)).2 h7
          rw [z3] at hpc
          have hbit : inf.mask.testBit qi = true := by simpa using hpc
          have := hlow qi oq hoq (by rw [← y4]; exact z2) (by simp only [w2, Option.getD_some]; rw [← w3]; exact hbit)
          simp only [z1, Option.map_some, Option.getD_some] at this
          omega
        · exact h7
      have hhi' : j ≤ hiOf (effMasks is 0) i := by
        refine count_ge _ _ j hj' (fun q x hq hx => ?_)
        obtain ⟨qi, infq, z1, z2, z3, z4⟩ := eff_conv is 0 0 q x hidx hx
        obtain ⟨oq, hoq⟩ := hex qi infq z1
        obtain ⟨inf', kq, y1, y2, y3, y4, _⟩ := hget qi oq hoq
        rw [z1] at y1; cases y1
        have := hhi qi oq hoq (by rw [← y4]; exact z2) (by simp only [z1, Option.map_some, Option.getD_some]; omega)
        simp only [y2, Option.getD_some] at this
        rw [z3]
        simp only
        rw [y3, this]
        rfl
      obtain ⟨H9', haex⟩ := dCheck_spec ops.toList (effMasks is 0) Hs ops.toList is rs 0 hdc i o inf Si v (by simpa using ho) w1 q2 hieff hw j Hj hlo (by rw [Nat.zero_add]; exact hhi') hHj
      obtain ⟨rfl, _⟩ := reads_H (P := P) he haex
      unfold stepA
      rw [hw, cond_true]
      unfold xop
      rw [haex]
      rfl
  · intro i o ho he
    obtain ⟨inf, k, w1, w2, w3, w4, w5, _⟩ := hget i o ho
    obtain ⟨inf2, Si, v, H0, H1, q1, q2, q3, q4, q5, _⟩ := hstep i o ho
    rw [w1] at q1; cases q1
    have hie : inf.eff = true := by rw [w4]; exact he
    rw [hie, cond_true] at q5
    simp only [w1, q2, q3, q5, Option.map_some, Option.getD_some]
    exact q4
  · intro i o ho hal
    exact isAl_eff hal
  · intro i o ho hal
    obtain ⟨inf, k, w1, w2, w3, w4, w5, _⟩ := hget i o ho
    obtain ⟨inf2, Si, v, H0, H1, q1, q2, q3, q4, q5, _⟩ := hstep i o ho
    rw [w1] at q1; cases q1
    have hie : inf.eff = true := by rw [w4]; exact isAl_eff hal
    rw [hie, cond_true] at q5
    have := hsh i o inf Si v H0 H1 ho w1 q2 q3 q5 hal
    simp only [w1, q2, q3, q5, Option.map_some, Option.getD_some]
    exact this
  · intro i o ho t
    obtain ⟨Si, v, hi⟩ := hrs i o ho
    obtain ⟨s1, s2, s3⟩ := slots i Si v hi t
    simp only [hi, Option.map_some, Option.getD_some]
    refine ⟨fun k q hk hq hki ht => ?_, s2, s3⟩
    obtain ⟨Sk, vk, hkr⟩ := hrs k q hk
    simp only [hkr, Option.map_some, Option.getD_some]
    exact s1 k q Sk vk hk hkr hq hki ht
  · intro t
    rcases Nat.eq_zero_or_pos ops.size with h0 | h0
    · have hno : ∀ (k : Nat) (q : Oper), ops[k]? = some q → False := fun k q hk => by
        have := (Array.getElem?_eq_some_iff.1 hk).1; omega
      have hnil : ops.toList = [] := List.eq_nil_of_length_eq_zero (by simpa using h0)
      have hS := d5 hnil
      subst hS
      exact ⟨fun k q hk => (hno k q hk).elim, fun _ => rfl, fun _ => rfl⟩
    · have hlast : ops[ops.size - 1]? = some (ops[ops.size - 1]'(by omega)) := Array.getElem?_eq_getElem _
      generalize (ops[ops.size - 1]'(by omega)) = o at hlast
      obtain ⟨inf, Si, v, H0, H1, q1, q2, q3, q4, q5, q6, q7⟩ := hstep (ops.size - 1) o hlast
      have hS := q7 (by rw [Array.length_toList]; omega)
      obtain ⟨i1, i2, i3⟩ := slots (ops.size - 1) Si v q2 t
      have hput := putS_get (S := Si) hn o.dst v t
      refine ⟨fun k q hk hq ht => ?_, fun hno => ?_, fun ht => ?_⟩
      · rw [hS, hput]
        obtain ⟨Sk, vk, hkr⟩ := hrs k q hk
        simp only [hkr, Option.map_some, Option.getD_some]
        by_cases hki' : k = ops.size - 1
        · subst hki'
          rw [hlast] at hk; cases hk
          rw [q2] at hkr; cases hkr
          rw [if_pos ⟨hq, ht⟩]
        · rw [if_neg (fun e => hki' (distinct_spec _ k (ops.size - 1) t st1 (by simp [hk, hq]) (by simp [hlast, e.1])))]
          have := (Array.getElem?_eq_some_iff.1 hk).1
          exact i1 k q Sk vk hk hkr hq (by omega) ht
      · rw [hS, hput, if_neg (fun e => hno _ o hlast e.1)]
        exact i2 (fun k q hk hq _ => hno k q hk hq)
      · rw [hS, hput, if_neg (fun e => absurd e.2 (Nat.not_lt.2 ht))]
        exact i3 ht
  · simp only [d2, Option.getD_some]
  · have hl : Hs[(effMasks is 0).length]? = some H' := by
      rw [List.getLast?_eq_getElem?, d6] at hlast
      simpa using hlast
    simp only [hl, Option.getD_some]
theorem drawn_ok (hk : RecOk P rec) (hm : P.follows .mixedOrders = true) : DrawnOk P rec := fun ops id n S S' H H' h D sg W a r m Q hR ha hQ => by
  obtain ⟨p, hp⟩ := drawn_plan h ha.small
  exact plan_region hk.call hk.round hm hp hR ha hQ
/-- THE LAW OF THE EVALUATOR. -/
theorem ev_ok {ext : Outer} (he : ExtOk P ext) (hm : P.follows .mixedOrders = true) : ∀ n, RecOk P (ev P ext n)
  | 0 => noRec_ok
  | n + 1 => stepRec_ok (ev_ok he hm n) he (drawn_ok (ev_ok he hm n) hm)
end
end
end Go.Proofs.YtgdlpgakhhebeaaGreatDoor.Ev
end
section
set_option linter.unusedVariables false
namespace Go.Proofs.YtgdlpgakhhebeaaGreatDoor.Ev
open Go
noncomputable section

/-- A word by one shift, as the model has it. -/
def gI (x : Int) : Int :=
  IntKind.wrap .u32 (BitVec.ofInt IntKind.u32.bits (x.fdiv (2 ^ (min (1 : Int).toNat IntKind.u32.bits))) ^^^
    BitVec.ofInt IntKind.u32.bits (IntKind.wrap .u32 (BitVec.ofInt IntKind.u32.bits 3988292384 &&&
      BitVec.ofInt IntKind.u32.bits (IntKind.wrap .u32 (0 - IntKind.wrap .u32 (BitVec.ofInt IntKind.u32.bits x &&& BitVec.ofInt IntKind.u32.bits 1).toNat))).toNat)).toNat
set_option maxRecDepth 100000 in
theorem shift_ev (w : Nat) (H : ASt) : (ev Tryz.prog (fun _ => none) 200).call 99 [.int .u32 (.ofNat w)] H = some (.int .u32 (gI (gI (gI (gI (gI (gI (gI (gI (.ofNat w))))))))), H) := by kernel_rfl
/-- A word by one shift, for the kernel. -/
def sh1 (w : Nat) : Nat := Nat.xor (Nat.shiftRight w 1) (T.bi (Nat.beq (Nat.mod w 2) 1) 3988292384 0)
def sh8 (w : Nat) : Nat := sh1 (sh1 (sh1 (sh1 (sh1 (sh1 (sh1 (sh1 w)))))))
theorem sh1_lt {w : Nat} (h : w < 4294967296) : sh1 w < 4294967296 := by
  unfold sh1
  refine Nat.xor_lt_two_pow (n := 32) ?_ ?_
  · show w >>> 1 < 2 ^ 32
    rw [Nat.shiftRight_eq_div_pow]
    omega
  · rw [T.bi_eq]
    cases Nat.beq (Nat.mod w 2) 1 <;> decide
theorem wrap32 (n : Nat) (h : n < 4294967296) : IntKind.wrap .u32 (n : Int) = n := by
  simp [IntKind.wrap, IntKind.bits, IntKind.signed]
  omega
theorem gI_eq {w : Nat} (h : w < 4294967296) : gI (.ofNat w) = .ofNat (sh1 w) := by
  have e1 : (BitVec.ofInt IntKind.u32.bits (Int.ofNat w) &&& BitVec.ofInt IntKind.u32.bits 1).toNat = w % 2 := by
    show ((BitVec.ofInt 32 (w : Int)) &&& (BitVec.ofInt 32 1)).toNat = w % 2
    rw [BitVec.toNat_and, BitVec.toNat_ofInt, BitVec.toNat_ofInt]
    have a1 : ((w : Int) % ((2 ^ 32 : Nat) : Int)).toNat = w := by omega
    have a2 : ((1 : Int) % ((2 ^ 32 : Nat) : Int)).toNat = 1 := by decide
    rw [a1, a2, Nat.and_one_is_mod]
  have e2 : (Int.ofNat w).fdiv (2 ^ (min (1 : Int).toNat IntKind.u32.bits)) = ((w / 2 : Nat) : Int) := by
    show (w : Int).fdiv 2 = _
    rw [Int.fdiv_eq_ediv_of_nonneg _ (by decide)]
    rfl
  unfold gI
  rw [e1, e2]
  have hm : w % 2 = 0 ∨ w % 2 = 1 := by omega
  have a3 : (((w / 2 : Nat) : Int) % ((2 ^ 32 : Nat) : Int)).toNat = w / 2 := by omega
  rcases hm with hm | hm
  · have e3 : IntKind.wrap .u32 (BitVec.ofInt IntKind.u32.bits 3988292384 &&& BitVec.ofInt IntKind.u32.bits (IntKind.wrap .u32 (0 - IntKind.wrap .u32 ((w % 2 : Nat) : Int)))).toNat = 0 := by
      rw [hm]; decide
    rw [e3]
    have e4 : (BitVec.ofInt IntKind.u32.bits ((w / 2 : Nat) : Int) ^^^ BitVec.ofInt IntKind.u32.bits 0).toNat = w / 2 := by
      show (BitVec.ofInt 32 ((w / 2 : Nat) : Int) ^^^ BitVec.ofInt 32 0).toNat = w / 2
      rw [BitVec.toNat_xor, BitVec.toNat_ofInt, BitVec.toNat_ofInt, a3]
      simp
    rw [e4, wrap32 _ (by omega)]
    have e5 : sh1 w = w / 2 := by
      unfold sh1
      rw [T.bi_eq]
      show (w >>> 1) ^^^ (bif Nat.beq (w % 2) 1 then 3988292384 else 0) = w / 2
      rw [hm, Nat.shiftRight_eq_div_pow]
      show (w / 2 ^ 1) ^^^ 0 = w / 2
      rw [Nat.xor_zero, Nat.pow_one]
    rw [e5]
    rfl
  · have e3 : IntKind.wrap .u32 (BitVec.ofInt IntKind.u32.bits 3988292384 &&& BitVec.ofInt IntKind.u32.bits (IntKind.wrap .u32 (0 - IntKind.wrap .u32 ((w % 2 : Nat) : Int)))).toNat = 3988292384 := by
      rw [hm]; decide
    rw [e3]
    have e4 : (BitVec.ofInt IntKind.u32.bits ((w / 2 : Nat) : Int) ^^^ BitVec.ofInt IntKind.u32.bits 3988292384).toNat = (w / 2) ^^^ 3988292384 := by
      show (BitVec.ofInt 32 ((w / 2 : Nat) : Int) ^^^ BitVec.ofInt 32 3988292384).toNat = _
      rw [BitVec.toNat_xor, BitVec.toNat_ofInt, BitVec.toNat_ofInt, a3]
      rfl
    have e5 : sh1 w = (w / 2) ^^^ 3988292384 := by
      unfold sh1
      rw [T.bi_eq]
      show (w >>> 1) ^^^ (bif Nat.beq (w % 2) 1 then 3988292384 else 0) = _
      rw [hm, Nat.shiftRight_eq_div_pow]
      rfl
    rw [e4, ← e5, wrap32 _ (sh1_lt h)]
    rfl
theorem shift8 {w : Nat} (h : w < 4294967296) : gI (gI (gI (gI (gI (gI (gI (gI (.ofNat w)))))))) = .ofNat (sh8 w) := by
  have h1 := sh1_lt h
  have h2 := sh1_lt h1
  have h3 := sh1_lt h2
  have h4 := sh1_lt h3
  have h5 := sh1_lt h4
  have h6 := sh1_lt h5
  have h7 := sh1_lt h6
  rw [gI_eq h, gI_eq h1, gI_eq h2, gI_eq h3, gI_eq h4, gI_eq h5, gI_eq h6, gI_eq h7]
  rfl
theorem mixed : Tryz.prog.follows .mixedOrders = true := by kernel_rfl
theorem noExt_ok : ExtOk Tryz.prog (fun _ => none) := fun f g h => by cases h
/-- shift, as a law of its own. -/
def shiftA : List Value → ASt → VRes
  | [.int .u32 (.ofNat w)], H => T.bi (Nat.blt w 4294967296) (some (.int .u32 (.ofNat (sh8 w)), H)) none
  | _, _ => none
def extShift : Outer := fun f => T.bi (Nat.beq f 99) (some shiftA) none
theorem extShift_ok : ExtOk Tryz.prog extShift := fun f g hfg f' args H v H' h => by
  unfold extShift at hfg
  rw [T.bi_eq] at hfg
  cases hf : Nat.beq f 99 with
  | false => rw [hf] at hfg; cases hfg
  | true =>
    rw [hf] at hfg
    cases hfg
    have hf : f = 99 := Nat.eq_of_beq_eq_true hf
    subst hf
    simp only at h
    by_cases he : f' = 99
    · subst he
      rw [if_pos rfl] at h
      unfold shiftA at h
      split at h
      · rename_i w
        rw [T.bi_eq] at h
        cases hw : Nat.blt w 4294967296 with
        | false => rw [hw] at h; cases h
        | true =>
          rw [hw, cond_true] at h
          have hv : v = .int .u32 (.ofNat (sh8 w)) := (Prod.mk.inj (Option.some.inj h)).1.symm
          have hH : H' = H := (Prod.mk.inj (Option.some.inj h)).2.symm
          subst hH
          have hw : w < 4294967296 := by simpa [Nat.blt_eq] using hw
          have hr := (ev_ok noExt_ok mixed 200).call 99 _ _ _ _ (shift_ev w H')
          rw [shift8 hw] at hr
          rw [hv]
          exact hr
      · cases h
    · rw [if_neg he] at h
      cases h
/-- A word of the table. -/
def word : Nat → Nat → Nat
  | 0, i => sh8 i
  | k + 1, i => sh8 (word k i)
def crcWord (j : Nat) : Value := .int .u32 (.ofNat (word (Nat.div j 256) (Nat.mod j 256)))
def crcL : List Value := (List.range 1024).map crcWord
def H0 : ASt := { heap := .nil, mem := .nil, next := 1 }
def isWord (j : Nat) : Option Value → Bool
  | some (.int .u32 (.ofNat n)) => Nat.beq n (word (Nat.div j 256) (Nat.mod j 256))
  | _ => false
def allWords (cs : T Value) (n : Nat) : Bool := Nat.rec (motive := fun _ => Bool) true (fun j r => @Bool.rec (fun _ => Bool) false r (isWord j (cs.get j))) n
def isTable (b : Nat) : Option AO → Bool
  | some (.cells B) => Nat.beq B.n 1024 && allWords B.cs 1024
  | _ => false
def newCheck : VRes → Bool
  | some (.pointer (some ⟨b, 0, none⟩), H') => isTable b (H'.heap.get b)
  | _ => false
end
end Go.Proofs.YtgdlpgakhhebeaaGreatDoor.Ev
end
section
set_option linter.unusedVariables false
namespace Go.Proofs.YtgdlpgakhhebeaaGreatDoor.Ev
open Go
noncomputable section
set_option maxRecDepth 1000000 in
theorem new_run : newCheck ((ev Tryz.prog extShift 3000).call 59 [] H0) = true := by kernel_rfl
end
end Go.Proofs.YtgdlpgakhhebeaaGreatDoor.Ev
end
