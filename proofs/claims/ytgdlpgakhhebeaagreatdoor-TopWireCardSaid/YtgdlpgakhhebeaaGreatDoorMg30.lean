/- Part 30 of the proof of TopWire: Evi, Evj. -/
import Derived.Orders
import Derived.Test.YtgdlpgakhhebeaaGreatDoorMg29
section
set_option linter.unusedVariables false
namespace Go.Proofs.YtgdlpgakhhebeaaGreatDoor.Ev
open Go
noncomputable section
section
variable {P : Program} {sg : Nat → Pl} {H : ASt} {W : World}

/-! ### Maps -/
/-- Entries, pair by pair. -/
def ER (sg : Nat → Pl) (N : Nat) (e : Value × Value × Nat) (e' : MapEntry) : Prop := bare 9 e.1 = true ∧ e'.key = e.1 ∧ VR sg N e.2.1 e'.val ∧ e.2.2 = e'.born
def MR (sg : Nat → Pl) (N : Nat) (es : List (Value × Value × Nat)) (es' : List MapEntry) : Prop := es.length = es'.length ∧ ∀ (i : Nat) (e : Value × Value × Nat) (e' : MapEntry), es[i]? = some e → es'[i]? = some e' → ER sg N e e'
theorem MR.tail {N : Nat} {e : Value × Value × Nat} {es : List (Value × Value × Nat)} {e' : MapEntry} {es' : List MapEntry} (h : MR sg N (e :: es) (e' :: es')) : MR sg N es es' :=
  ⟨by have := h.1; simpa using this, fun i x x' a b => h.2 (i + 1) x x' a b⟩
theorem MR.head {N : Nat} {e : Value × Value × Nat} {es : List (Value × Value × Nat)} {e' : MapEntry} {es' : List MapEntry} (h : MR sg N (e :: es) (e' :: es')) : ER sg N e e' := h.2 0 e e' rfl rfl
theorem MR.cons {N : Nat} {e : Value × Value × Nat} {es : List (Value × Value × Nat)} {e' : MapEntry} {es' : List MapEntry} (h : ER sg N e e') (k : MR sg N es es') : MR sg N (e :: es) (e' :: es') :=
  ⟨by simp [k.1], fun i x x' a b => by
    cases i with
    | zero => cases a; cases b; exact h
    | succ i => exact k.2 i x x' a b⟩
theorem MR.nil' {N : Nat} : MR sg N [] [] := ⟨rfl, fun i e e' h => by cases h⟩
theorem sameNow_int (kd : IntKind) (k : Value) (x : Value) {b : Bool} (h : Instr.sameNow (.int .i64) k x = some b) : Instr.sameNow (.int kd) k x = some b ∧ (b = true → ∃ q a, k = .int q a ∧ x = .int q a) := by
  cases k <;> cases x <;> first
    | (simp [Instr.sameNow] at h; done)
    | (rename_i q a q' a'
       simp only [Instr.sameNow] at h ⊢
       by_cases hq : q = q'
       · subst hq
         rw [if_pos rfl] at h ⊢
         refine ⟨h, fun hb => ?_⟩
         cases h
         have : a = a' := by simpa using hb
         subst this
         exact ⟨q, a, rfl, rfl⟩
       · rw [if_neg hq] at h; cases h)
theorem findE_ok (kd : IntKind) (k : Value) {N : Nat} : ∀ (es : List (Value × Value × Nat)) (es' : List MapEntry) (i : Nat) (r : Option (Nat × Value)), MR sg N es es' → findE k es i = some r →
    (r = none ∧ Instr.findNow (.int kd) k es' i = some none) ∨ ∃ j v v', r = some (j, v) ∧ Instr.findNow (.int kd) k es' i = some (some (j, v')) ∧ VR sg N v v' ∧ i ≤ j ∧ j < i + es.length ∧ (∃ e, es[j - i]? = some e ∧ e.2.1 = v ∧ ∃ q a, k = .int q a ∧ e.1 = .int q a)
  | [], es', i, r, hm, h => by
    cases es' with
    | nil => cases h; exact .inl ⟨rfl, rfl⟩
    | cons e' es' => have := hm.1; simp at this
  | e :: es, es', i, r, hm, h => by
    cases es' with
    | nil => have := hm.1; simp at this
    | cons e' es' =>
      have hh := hm.head
      unfold findE at h
      simp only [Option.ob_eq, Option.bind_eq_some_iff] at h
      obtain ⟨b, h1, h2⟩ := h
      obtain ⟨s1, s2⟩ := sameNow_int kd k e.1 h1
      have s1' : Instr.sameNow (.int kd) k e'.key = some b := by rw [hh.2.1]; exact s1
      cases b with
      | true =>
        rw [cond_true] at h2
        cases h2
        refine .inr ⟨i, e.2.1, e'.val, rfl, ?_, hh.2.2.1, Nat.le_refl _, by simp, e, by simp, rfl, s2 rfl⟩
        simp [Instr.findNow, s1']
      | false =>
        rw [cond_false] at h2
        have h2 : findE k es (i + 1) = some r := h2
        rcases findE_ok kd k es es' (i + 1) r hm.tail h2 with ⟨q1, q2⟩ | ⟨j, v, v', q1, q2, q3, q4, q5, x, q6, q7⟩
        · exact .inl ⟨q1, by simp [Instr.findNow, s1', q2]⟩
        · refine .inr ⟨j, v, v', q1, by simp [Instr.findNow, s1', q2], q3, by omega, by simp only [List.length_cons]; omega, x, ?_, q7⟩
          rw [show j - i = (j - (i + 1)) + 1 by omega, List.getElem?_cons_succ]
          exact q6
theorem mapElem_eq {t elem : TypeId} (h : mapElem P t = some elem) : ∃ key kd, P.underlying t = some (.map key elem) ∧ P.underlying key = some (.int kd) := by
  unfold mapElem at h
  split at h
  · rename_i key e hd
    cases hc : isIntD (P.underlying key) with
    | false => rw [hc] at h; cases h
    | true =>
      rw [hc] at h
      cases h
      unfold isIntD at hc
      split at hc
      · rename_i kd hk; exact ⟨key, kd, hd, hk⟩
      · cases hc
  · cases h
theorem checkKey_run' {key : TypeId} {kd : IntKind} (hk : P.underlying key = some (.int kd)) (e : Bool) (d : Nat) (k : Value) : (Instr.checkKey e (d + 1) key k).run P W = .ok () W := by
  unfold Instr.checkKey
  rw [Sem.run_bind, run_underlying hk]
  rfl
theorem checkKey_run {key : TypeId} {kd : IntKind} (hk : P.underlying key = some (.int kd)) (e : Bool) (k : Value) : (Instr.checkKey e 10000 key k).run P W = .ok () W := checkKey_run' hk e 9999 k
theorem findKey_run {key : TypeId} {kd : IntKind} (hk : P.underlying key = some (.int kd)) {k : Value} {es : List MapEntry} {r : Option (Nat × Value)} (h : Instr.findNow (.int kd) k es 0 = some r) : (Instr.findKey key k es).run P W = .ok r W := by
  simp [Instr.findKey, run_underlying hk, h]
theorem entries_MR (hR : R sg H W) {x x' : Value} {es : List (Value × Value × Nat)} (hx : VR sg H.next x x') (h : entries H x = some es) :
    (x' = .map none ∧ es = []) ∨ ∃ r es' clock, x' = .map (some r) ∧ W.heap[r]? = some (.map es' clock) ∧ MR sg H.next es es'.toList := by
  rcases entries_ok hR hx h with h | ⟨r, es', clock, h1, h2, h3, h4⟩
  · exact .inl h
  · exact .inr ⟨r, es', clock, h1, h2, by simpa using h3, fun i e e' a b => h4 i e e' a (by simpa using b)⟩
theorem okV_VR {N : Nat} {ok b : Bool} {v v' : Value} (h : VR sg N v v') : VR sg N (okV ok b v) (if ok then .tuple #[v', .bool b] else v') := by
  cases ok with
  | false => exact h
  | true =>
    show VR sg N (.tuple #[v, .bool b]) (.tuple #[v', .bool b])
    refine .tuple _ _ rfl (fun i u u' a c => ?_)
    cases i with
    | zero => simp at a c; subst a; subst c; exact h
    | succ i => cases i with
      | zero => simp at a c; subst a; subst c; exact .bool b
      | succ i => simp at a
theorem lookup_ok (hR : R sg H W) {t : TypeId} {m m' k k' v : Value} {ok : Bool} (hm : VR sg H.next m m') (hk : VR sg H.next k k') (h : alookup P t m k ok H = some v) : Does P sg H W (Instr.lookup t m' k' ok) v H := by
  unfold alookup at h
  simp only [Option.ob_eq, Option.bind_eq_some_iff] at h
  obtain ⟨elem, h1, h2⟩ := h
  obtain ⟨key, kd, hd, hkd⟩ := mapElem_eq h1
  cases hb : bare 9 k with
  | false => rw [hb] at h2; cases h2
  | true =>
  rw [hb, cond_true] at h2
  cases hk.bare_eq 9 _ _ hb
  simp only [Option.ob_eq, Option.bind_eq_some_iff] at h2
  obtain ⟨es, h3, r, h4, h5⟩ := h2
  have key2 : ∀ (es' : Array MapEntry), MR sg H.next es es'.toList → ∃ v', VR sg H.next v v' ∧
      ((∃ z, (Instr.findKey key k es'.toList).run P W = .ok none W ∧ (zeroValue elem).run P W = .ok z W ∧ v' = if ok then .tuple #[z, .bool false] else z) ∨
       (∃ j u', (Instr.findKey key k es'.toList).run P W = .ok (some (j, u')) W ∧ v' = if ok then .tuple #[u', .bool true] else u')) := fun es' hmr => by
    rcases findE_ok kd k es es'.toList 0 r hmr h4 with ⟨rfl, q2⟩ | ⟨j, u, u', rfl, q2, q3, _⟩
    · unfold lookIn at h5
      simp only [Option.ob_eq, Option.bind_eq_some_iff] at h5
      obtain ⟨z, h6, h7⟩ := h5
      cases h7
      obtain ⟨i, hi, hz, hzb⟩ := zeroV_eq h6
      exact ⟨_, okV_VR (VR.of_bare 9 z hzb), .inl ⟨z, findKey_run hkd q2, by simp [zeroValue, typeInfo, hi, hz], rfl⟩⟩
    · cases h5
      exact ⟨_, okV_VR q3, .inr ⟨j, u', findKey_run hkd q2, rfl⟩⟩
  rcases entries_MR hR hm h3 with ⟨rfl, rfl⟩ | ⟨rr, es', clock, rfl, ho, hmr⟩
  · obtain ⟨v', q2, ⟨z, q3, q4, rfl⟩ | ⟨j, u', q3, rfl⟩⟩ := key2 #[] MR.nil'
    · refine Does.same hR ?_ q2
      have q3' : (Instr.findKey key k []).run P W = .ok none W := q3
      simp [Instr.lookup, run_underlying hd, checkKey_run hkd, q3', q4]
    · refine Does.same hR ?_ q2
      have q3' : (Instr.findKey key k []).run P W = .ok (some (j, u')) W := q3
      simp [Instr.lookup, run_underlying hd, checkKey_run hkd, q3']
  · obtain ⟨v', q2, ⟨z, q3, q4, rfl⟩ | ⟨j, u', q3, rfl⟩⟩ := key2 es' hmr
    · refine Does.same hR ?_ q2
      simp [Instr.lookup, run_underlying hd, checkKey_run hkd, q3, q4, getObj, Sem.run, ho]
    · refine Does.same hR ?_ q2
      simp [Instr.lookup, run_underlying hd, checkKey_run hkd, q3, getObj, Sem.run, ho]
theorem amap_ok (hR : R sg H W) {x x' : Value} {r clock : Nat} {es : List (Value × Value × Nat)} (hx : VR sg H.next x x') (h : amap H x = some (r, es, clock)) :
    H.heap.get r = some (.obj (.map es clock)) ∧ x' = .map (some (sg r).1) ∧ ∃ es', W.heap[(sg r).1]? = some (.map es' clock) ∧ MR sg H.next es es'.toList := by
  unfold amap at h
  split at h
  case h_2 => cases h
  rename_i r0
  unfold mapAt at h
  split at h
  case h_2 => cases h
  rename_i es0 clock0 hes
  cases h
  obtain ⟨o', ho, hor⟩ := hR.obj r _ hes
  cases hx
  cases hor with
  | map _ es' _ e1 e2 => exact ⟨hes, rfl, es', ho, by simpa using e1, fun i e e' a b => e2 i e e' a (by simpa using b)⟩
theorem MR.or {N clock : Nat} {es : List (Value × Value × Nat)} {es' : Array MapEntry} (h : MR sg N es es'.toList) : OR sg N (.map es clock) (.map es' clock) :=
  .map es es' clock (by simpa using h.1) (fun i e e' a b => h.2 i e e' a (by simpa using b))
theorem setE_get : ∀ (es : List (Value × Value × Nat)) (v : Value) (i j : Nat), (setE v es i)[j]? = if j = i then (es[j]?).map (fun e => (e.1, v, e.2.2)) else es[j]?
  | [], v, i, j => by cases i <;> simp [setE]
  | e :: es, v, 0, j => by cases j <;> simp [setE]
  | e :: es, v, i + 1, j => by
    cases j with
    | zero => simp [setE]
    | succ j =>
      simp only [setE, List.getElem?_cons_succ]
      rw [setE_get es v i j]
      by_cases h : j = i <;> simp [h]
theorem setE_length : ∀ (es : List (Value × Value × Nat)) (v : Value) (i : Nat), (setE v es i).length = es.length
  | [], v, i => by cases i <;> rfl
  | e :: es, v, 0 => rfl
  | e :: es, v, i + 1 => by simp [setE, setE_length es v i]
theorem delE_eq : ∀ (es : List (Value × Value × Nat)) (i : Nat), delE es i = es.eraseIdx i
  | [], i => by cases i <;> rfl
  | e :: es, 0 => rfl
  | e :: es, i + 1 => by simp [delE, delE_eq es i]
theorem mapUpdate_ok (hR : R sg H W) {t : TypeId} {m m' k k' x x' : Value} {H' : ASt} (hm : VR sg H.next m m') (hk : VR sg H.next k k') (hx : VR sg H.next x x') (h : amapUpdate P t m k x H = some H') :
    ∃ W', (Instr.mapUpdate t m' k' x').run P W = .ok () W' ∧ R sg H' W' ∧ Fr sg H W sg H' W' := by
  unfold amapUpdate at h
  simp only [Option.ob_eq, Option.bind_eq_some_iff] at h
  obtain ⟨elem, h1, h2⟩ := h
  obtain ⟨key, kd, hd, hkd⟩ := mapElem_eq h1
  cases hb : bare 9 k with
  | false => rw [hb] at h2; cases h2
  | true =>
  rw [hb, cond_true] at h2
  cases hk.bare_eq 9 _ _ hb
  simp only [Option.ob_eq, Option.bind_eq_some_iff] at h2
  obtain ⟨⟨r, es, clock⟩, h3, rr, h4, h5⟩ := h2
  obtain ⟨ho, rfl, es', hW, hmr⟩ := amap_ok hR hm h3
  cases h5
  rcases findE_ok kd k es es'.toList 0 rr hmr h4 with ⟨rfl, q2⟩ | ⟨j, u, u', rfl, q2, q3, q4, q5, e, q6, q7, qi, a, rfl, q8⟩
  · have hset := hR.setObj ho (o2 := .map (es ++ [(k, x, clock)]) (clock + 1)) (o2' := .map (es'.push { key := k, val := x', born := clock }) (clock + 1)) (MR.or ⟨by simp [hmr.1], fun i e e' p q => by
      simp only [Array.toList_push] at q
      rcases Nat.lt_or_ge i es.length with hi | hi
      · rw [List.getElem?_append_left hi] at p
        rw [List.getElem?_append_left (by rw [← hmr.1]; exact hi)] at q
        exact hmr.2 i e e' p q
      · rw [List.getElem?_append_right hi] at p
        rw [List.getElem?_append_right (by rw [← hmr.1]; exact hi), ← hmr.1] at q
        cases hj : i - es.length with
        | zero =>
          rw [hj] at p q
          cases p; cases q
          exact ⟨hb, rfl, hx, rfl⟩
        | succ n => rw [hj] at p; simp at p⟩)
    refine ⟨_, ?_, hset.1, hset.2⟩
    simp [Instr.mapUpdate, run_underlying hd, getObj, setObj, Sem.run, hW, checkKey_run hkd, findKey_run hkd q2, World.putObj]
  · have hset := hR.setObj ho (o2 := .map (setE x es j) clock) (o2' := .map (es'.modify j fun e => { e with key := .int qi a, val := x' }) clock) (MR.or ⟨by rw [setE_length]; simp [hmr.1], fun i y y' p p' => by
      rw [setE_get] at p
      simp only [Array.toList_modify, List.getElem?_modify] at p'
      by_cases hij : i = j
      · subst hij
        rw [if_pos rfl] at p
        rw [Nat.sub_zero] at q6
        rw [q6] at p
        cases p
        have hl : i < es'.toList.length := by rw [← hmr.1]; omega
        rw [List.getElem?_eq_getElem hl] at p'
        simp at p'
        have := hmr.2 i e es'.toList[i] q6 (List.getElem?_eq_getElem hl)
        subst p'
        refine ⟨this.1, by rw [q8], hx, ?_⟩
        have h8 := this.2.2.2
        simpa using h8
      · rw [if_neg hij] at p
        have hji : ¬ (j = i) := fun e => hij e.symm
        cases hq : es'.toList[i]? with
        | none => rw [hq] at p'; simp at p'
        | some z =>
          rw [hq] at p'
          simp [hji] at p'
          subst p'
          exact hmr.2 i y _ p hq⟩)
    refine ⟨_, ?_, hset.1, hset.2⟩
    have hl : j < es'.size := by have := hmr.1; simp at this; omega
    have hkey : es'[j].key = .int qi a := by
      have h9 : j < es'.toList.length := by simpa using hl
      rw [Nat.sub_zero] at q6
      have := hmr.2 j e es'.toList[j] q6 (List.getElem?_eq_getElem h9)
      have h10 := this.2.1
      rw [q8] at h10
      simpa using h10
    have hks : (Instr.keyThatStays (.int qi a) (.int qi a)).run P W = .ok (.int qi a) W := by
      simp [Instr.keyThatStays, Instr.sameBits]
    simp [Instr.mapUpdate, run_underlying hd, getObj, setObj, Sem.run, hW, checkKey_run hkd, findKey_run hkd q2, World.putObj, hl, hkey, hks]
theorem delete_ok (hR : R sg H W) {t tx ty : TypeId} {m m' k k' : Value} {H' : ASt} (hm : VR sg H.next m m') (hk : VR sg H.next k k') (h : adelete P t m k H = some H') :
    Does P sg H W (Builtin.delete_ #[t, tx] ty #[m', k']) (.tuple #[]) H' := by
  have ht : ∀ {sg' : Nat → Pl} {N : Nat}, VR sg' N (.tuple #[]) (.tuple #[]) := .tuple _ _ rfl (fun i v v' a => by simp at a)
  unfold adelete at h
  simp only [Option.ob_eq, Option.bind_eq_some_iff] at h
  obtain ⟨elem, h1, h2⟩ := h
  obtain ⟨key, kd, hd, hkd⟩ := mapElem_eq h1
  cases hb : bare 9 k with
  | false => rw [hb] at h2; cases h2
  | true =>
  rw [hb, cond_true] at h2
  cases hk.bare_eq 9 _ _ hb
  unfold deleteAt at h2
  split at h2
  · cases h2
    cases hm
    exact Does.same hR (v' := .tuple #[]) (by simp [Builtin.delete_, run_underlying hd, checkKey_run hkd]) ht
  · rename_i r0
    simp only [Option.ob_eq, Option.bind_eq_some_iff] at h2
    obtain ⟨⟨r, es, clock⟩, h3, rr, h4, h5⟩ := h2
    obtain ⟨ho, rfl, es', hW, hmr⟩ := amap_ok hR hm (x := .map (some r0)) h3
    cases h5
    rcases findE_ok kd k es es'.toList 0 rr hmr h4 with ⟨rfl, q2⟩ | ⟨j, u, u', rfl, q2, q3, q4, q5, q6⟩
    · have hset := hR.setObj ho (o2 := .map es clock) (o2' := .map es' clock) (MR.or hmr)
      refine ⟨.tuple #[], sg, _, ?_, hset.1, hset.2, ht⟩
      simp [Builtin.delete_, run_underlying hd, getObj, setObj, Sem.run, hW, checkKey_run hkd, findKey_run hkd q2, World.putObj]
    · have hset := hR.setObj ho (o2 := .map (delE es j) clock) (o2' := .map (es'.eraseIdxIfInBounds j) clock) (MR.or ⟨by
        rw [delE_eq]; simp [List.length_eraseIdx, hmr.1], fun i y y' p p' => by
        rw [delE_eq] at p
        simp only [Array.toList_eraseIdxIfInBounds] at p'
        rw [List.getElem?_eraseIdx] at p p'
        split at p
        · rename_i hij; rw [if_pos hij] at p'; exact hmr.2 i y y' p p'
        · rename_i hij; rw [if_neg hij] at p'; exact hmr.2 (i + 1) y y' p p'⟩)
      refine ⟨.tuple #[], sg, _, ?_, hset.1, hset.2, ht⟩
      simp [Builtin.delete_, run_underlying hd, getObj, setObj, Sem.run, hW, checkKey_run hkd, findKey_run hkd q2, World.putObj]
  · cases h2
end
end
end Go.Proofs.YtgdlpgakhhebeaaGreatDoor.Ev
end
section
set_option linter.unusedVariables false
namespace Go.Proofs.YtgdlpgakhhebeaaGreatDoor.Ev
open Go
noncomputable section
section
variable {P : Program} {sg : Nat → Pl} {H : ASt} {W : World}

theorem ret_eq {r : Option Value} {v : Value} {H' : ASt} (h : ret H r = some (v, H')) : r = some v ∧ H' = H := by
  unfold ret at h
  simp only [Option.ob_eq, Option.bind_eq_some_iff] at h
  obtain ⟨u, h1, h2⟩ := h
  cases h2
  exact ⟨h1, rfl⟩
/-- The operands of a list. -/
def Ops (sg : Nat → Pl) (N : Nat) (S : T Value) (ρ : Operand → Value) (xs : List Operand) : Prop := ∀ x ∈ xs, ∀ v, opval S x = some v → VR sg N v (ρ x)
theorem opval_evalS {S : T Value} {x : Operand} {v : Value} (h : opval S x = some v) : evalS S x = v := by
  cases x with
  | tmp t => cases h; rfl
  | const u => exact (constV_eq h).1
  | global g => cases h
  | func f => cases h; rfl
theorem opvals_LR {N : Nat} {S : T Value} {ρ : Operand → Value} : ∀ (xs : List Operand) (l : List Value), Ops sg N S ρ xs → opvals S xs = some l → LR sg N l (xs.map ρ)
  | [], l, ho, h => by cases h; exact LR.nil _ _
  | x :: xs, l, ho, h => by
    unfold opvals at h
    simp only [Option.ob_eq, Option.bind_eq_some_iff] at h
    obtain ⟨v, h1, k, h2, h3⟩ := h
    cases h3
    exact LR.cons (ho x (List.mem_cons_self ..) v h1) (opvals_LR xs k (fun y hy => ho y (List.mem_cons_of_mem _ hy)) h2)
theorem opvals_mem {S : T Value} : ∀ (xs : List Operand) (l : List Value), opvals S xs = some l → ∀ x ∈ xs, ∃ v ∈ l, opval S x = some v
  | [], l, h, x, hx => by cases hx
  | y :: xs, l, h, x, hx => by
    unfold opvals at h
    simp only [Option.ob_eq, Option.bind_eq_some_iff] at h
    obtain ⟨v, h1, k, h2, h3⟩ := h
    cases h3
    rcases List.mem_cons.1 hx with rfl | hx
    · exact ⟨v, List.mem_cons_self .., h1⟩
    · obtain ⟨u, hu, h4⟩ := opvals_mem xs k h2 x hx
      exact ⟨u, List.mem_cons_of_mem _ hu, h4⟩
theorem opparts_PR {N : Nat} {S : T Value} {ρ : Operand → Value} : ∀ (ps : List (Nat × Operand)) (l : List (Nat × Value)), Ops sg N S ρ (ps.map (·.2)) → opparts S ps = some l → PR sg N l (ps.map fun p => (p.1, ρ p.2))
  | [], l, ho, h => by cases h; exact trivial
  | (i, x) :: ps, l, ho, h => by
    unfold opparts at h
    simp only [Option.ob_eq, Option.bind_eq_some_iff] at h
    obtain ⟨v, h1, k, h2, h3⟩ := h
    cases h3
    exact ⟨rfl, ho x (by simp) v h1, opparts_PR ps k (fun y hy => ho y (by simp at hy ⊢; exact .inr hy)) h2⟩
theorem opt_OptR {N : Nat} {S : T Value} {ρ : Operand → Value} {x : Option Operand} {v : Option Value} (ho : ∀ y, x = some y → ∀ v, opval S y = some v → VR sg N v (ρ y)) (h : opt S x = some v) : OptR sg N v (x.map ρ) := by
  cases x with
  | none => cases h; exact .inl ⟨rfl, rfl⟩
  | some y =>
    unfold opt at h
    simp only [Option.ob_eq, Option.bind_eq_some_iff] at h
    obtain ⟨u, h1, h2⟩ := h
    cases h2
    exact .inr ⟨u, ρ y, rfl, rfl, ho y rfl u h1⟩
theorem apure_ok (hR : R sg H W) {S : T Value} {ρ : Operand → Value} {o : Oper} {v : Value} {H' : ASt} (hs : ∀ cs b, o.op ≠ .select cs b) (ho : Ops sg H.next S ρ o.op.operands.toList) (h : apure P S H o = some (v, H')) : DoesV P sg H W (execOp ρ o) v H' := by
  unfold apure at h
  simp only [Option.ob_eq, Option.bind_eq_some_iff] at h
  obtain ⟨vs, h1, h2⟩ := h
  cases hb : vs.all (bare 9) with
  | false => rw [hb] at h2; cases h2
  | true =>
    rw [hb, cond_true] at h2
    unfold bareRes at h2
    split at h2
    · rename_i u hu
      cases hc : bare 9 u with
      | false => rw [hc] at h2; cases h2
      | true =>
        rw [hc, cond_true] at h2
        cases h2
        have e : execOp ρ o = execOp (evalS S) o := execOp_congr o hs fun x hx => by
          obtain ⟨w, hw, h3⟩ := opvals_mem _ _ h1 x (by simpa using hx)
          rw [opval_evalS h3]
          exact (ho x (by simpa using hx) w h3).bare_eq 9 _ _ (List.all_eq_true.1 hb w hw)
        refine DoesV.same hR (v' := v) ?_ (VR.of_bare 9 v hc)
        rw [e]
        exact pureRun_run _ _ hu W
    · cases h2
theorem orPure_eq {S : T Value} {o : Oper} {r : Option Value} {v : Value} {H' : ASt} (h : orPure P S H o r = some (v, H')) : (r = some v ∧ H' = H) ∨ apure P S H o = some (v, H') := by
  unfold orPure at h
  split at h
  · cases h; exact .inl ⟨rfl, rfl⟩
  · exact .inr h
/-- A pure run of an operation upon two values. -/
theorem bin_fin (hR : R sg H W) {op : BinOp} {t u : TypeId} {x y : Operand} {a b v : Value} (h1 : (binOp op t a b).run P W = .ok v W) (hb : bare 9 v = true) (h2 : ∀ cs, a ≠ .agg cs) (h3 : a ≠ .nilIface) :
    Does P sg H W (do eqGuard op t x y a b; binOp op t a b) v H := by
  refine Does.same hR (v' := v) ?_ (VR.of_bare 9 v hb)
  show (eqGuard op t x y a b >>= fun _ => binOp op t a b).run P W = _
  rw [Sem.run_bind, eqGuard_run op t x y a b h2 h3]
  exact h1
theorem bin_ok (hR : R sg H W) {S : T Value} {ρ : Operand → Value} {d : Option Tmp} {ty : TypeId} {ps : String} {af : Array Edge} {g : Option (Nat × Bool)} {op : BinOp} {t u : TypeId} {x y : Operand} {v : Value} {H' : ASt}
    (ho : Ops sg H.next S ρ [x, y]) (h : vBin op t x y u P S H ⟨d, .binOp op t x y u, ty, ps, af, g⟩ = some (v, H')) : DoesV P sg H W (execOp ρ ⟨d, .binOp op t x y u, ty, ps, af, g⟩) v H' := by
  unfold vBin at h
  simp only [Option.ob_eq, Option.bind_eq_some_iff] at h
  obtain ⟨a, h1, b, h2, h3⟩ := h
  have ha := ho x (by simp) a h1
  have hb := ho y (by simp) b h2
  have hpure : apure P S H ⟨d, .binOp op t x y u, ty, ps, af, g⟩ = some (v, H') → DoesV P sg H W (execOp ρ ⟨d, .binOp op t x y u, ty, ps, af, g⟩) v H' := fun h => apure_ok hR (fun cs b e => by cases e) (fun z hz => ho z (by simpa [Op.operands] using hz)) h
  have fin : Does P sg H W (do eqGuard op t x y (ρ x) (ρ y); binOp op t (ρ x) (ρ y)) v H → H' = H → DoesV P sg H W (execOp ρ ⟨d, .binOp op t x y u, ty, ps, af, g⟩) v H' := fun hd e => by subst e; exact hd.next
  unfold binV at h3
  split at h3
  · rename_i k a k' b
    obtain ⟨h4, rfl⟩ := ret_eq h3
    obtain ⟨h5, h6⟩ := intOp_ok (W := W) t h4
    refine fin ?_ rfl
    rw [ha.int_eq, hb.int_eq]
    exact bin_fin hR (u := u) h5 h6 (fun cs e => by cases e) (fun e => by cases e)
  · rename_i a b
    obtain ⟨h4, rfl⟩ := ret_eq h3
    obtain ⟨h5, h6⟩ := strOp_ok (P := P) (W := W) t h4
    refine fin ?_ rfl
    rw [ha.str_eq, hb.str_eq]
    exact bin_fin hR (u := u) h5 h6 (fun cs e => by cases e) (fun e => by cases e)
  · exact hpure h3
  · rename_i a b
    cases hc : isBoolD (P.underlying t) with
    | false => rw [hc] at h3; cases h3
    | true =>
      rw [hc, cond_true] at h3
      obtain ⟨h4, rfl⟩ := ret_eq h3
      have hd : P.underlying t = some .bool := by
        unfold isBoolD at hc
        split at hc
        · assumption
        · cases hc
      refine fin ?_ rfl
      rw [ha.bool_eq, hb.bool_eq]
      exact bin_fin hR (u := u) (boolEq_ok hd h4) (by rcases eqBool_ok h4 with ⟨_, rfl⟩ | ⟨_, rfl⟩ <;> rfl) (fun cs e => by cases e) (fun e => by cases e)
  · rcases orPure_eq h3 with ⟨h4, rfl⟩ | h4
    · obtain ⟨h5, h6, h7, h8⟩ := nilCmp_ok (W := W) ha hb h4
      exact fin (bin_fin hR (u := u) h5 h6 h7 h8) rfl
    · exact hpure h4
theorem un_ok (hR : R sg H W) {op : UnOp} {a a' v : Value} (ha : VR sg H.next a a') (h : unV P op a = some v) : Does P sg H W (Op.unary op a') v H := by
  unfold unV at h
  split at h
  · cases h
    cases ha.bool_eq
    exact Does.same hR (v' := .bool _) (by rfl) (.bool _)
  · rename_i k n
    cases ha.int_eq
    obtain ⟨h1, h2⟩ := pureV (W := W) (s := Op.unary op (.int k n)) h
    exact Does.same hR h1 (VR.of_bare 9 v h2)
  · cases h
theorem convert_ok (hR : R sg H W) {S : T Value} {ρ : Operand → Value} {d : Option Tmp} {ty : TypeId} {ps : String} {af : Array Edge} {g : Option (Nat × Bool)} {src dst : TypeId} {x : Operand} {v : Value} {H' : ASt}
    (ho : Ops sg H.next S ρ [x]) (h : vConvert src dst x P S H ⟨d, .convert src dst x, ty, ps, af, g⟩ = some (v, H')) : DoesV P sg H W (execOp ρ ⟨d, .convert src dst x, ty, ps, af, g⟩) v H' := by
  unfold vConvert at h
  simp only [Option.ob_eq, Option.bind_eq_some_iff] at h
  obtain ⟨a, h1, h3⟩ := h
  have ha := ho x (by simp) a h1
  unfold aconvertD at h3
  split at h3
  · rename_i u k hs hd
    split at h3
    · rename_i k' n
      cases h3
      rw [wrapF_eq]
      refine Does.next (s := convert src dst (ρ x)) (Does.same hR (v' := .int k (k.wrap n)) ?_ (.int _ _))
      rw [ha.int_eq]
      have hs' : (underlying src).run P W = .ok u W := run_underlying hs W
      have hd' : (underlying dst).run P W = .ok (.int k) W := run_underlying hd W
      show ((underlying src) >>= fun a => (underlying dst) >>= fun b => _).run P W = _
      rw [Sem.run_bind, hs']
      show (underlying dst >>= _).run P W = _
      rw [Sem.run_bind, hd']
      cases u <;> rfl
    · cases h3
  · rename_i e hs hd
    split at h3
    · rename_i s
      refine Does.next (s := convert src dst (ρ x)) ?_
      rw [ha.str_eq]
      exact convSB_ok hR hs hd h3
    · cases h3
  · rename_i e hs hd
    exact Does.next (s := convert src dst (ρ x)) (convBS_ok hR hs hd ha h3)
  · rename_i hs hd
    split at h3
    · rename_i s
      cases h3
      refine Does.next (s := convert src dst (ρ x)) (Does.same hR (v' := .string s) ?_ (.string _))
      rw [ha.str_eq]
      simp [convert, run_underlying hs, run_underlying hd]
    · cases h3
  · exact apure_ok hR (fun cs b e => by cases e) (fun z hz => ho z (by simpa [Op.operands] using hz)) h3
theorem isStrD_eq {t : TypeId} (h : isStrD (P.underlying t) = true) : P.underlying t = some .string := by
  unfold isStrD at h
  split at h
  · assumption
  · cases h
theorem sliceStr_ok (hR : R sg H W) {t : TypeId} {s : ByteArray} {lo lo' hi hi' : Option Value} {v : Value} (hd : P.underlying t = some .string) (hlo : OptR sg H.next lo lo') (hhi : OptR sg H.next hi hi') (h : sliceStr s.data.toList lo hi = some v) :
    Does P sg H W (Instr.sliceAt t (.string s) lo' hi' none) v H := by
  unfold sliceStr at h
  simp only [Option.ob_eq, Option.bind_eq_some_iff] at h
  obtain ⟨l, h1, hh, h2, h3⟩ := h
  cases hc : (Nat.ble l hh && Nat.ble hh s.data.toList.length) with
  | false => rw [hc] at h3; cases h3
  | true =>
    rw [hc, cond_true] at h3
    cases h3
    simp only [Bool.and_eq_true, Nat.ble_eq, bytes_length] at hc
    obtain ⟨c1, c2⟩ := hc
    have hl := bound_spec h1 hlo
    have hh' := bound_spec h2 hhi
    rw [bytes_length] at hh'
    have e : s.extract l hh = ⟨((s.data.toList.drop l).take (hh - l)).toArray⟩ := by
      apply ByteArray.ext
      rw [ByteArray.data_extract]
      apply Array.toList_inj.1
      simp [Array.toList_extract, List.extract_eq_take_drop]
    refine Does.same hR (v' := .string (s.extract l hh)) ?_ (by rw [e]; exact .string _)
    rcases hl with ⟨rfl, rfl⟩ | ⟨k, rfl⟩ <;> rcases hh' with ⟨rfl, rfl⟩ | ⟨k', rfl⟩ <;>
      simp [Instr.sliceAt, Instr.slice, Instr.sliceBounds, Instr.sliceBound, asIntOf, run_underlying hd, c1, c2]
theorem byteAt_ok (hR : R sg H W) {t : TypeId} {s : ByteArray} {j j' v : Value} (hj : VR sg H.next j j') (h : byteAt P t s.data.toList j = some v) : Does P sg H W (Instr.index t (.string s) j') v H := by
  unfold byteAt at h
  cases hc : isStrD (P.underlying t) with
  | false => rw [hc] at h; cases h
  | true =>
    rw [hc, cond_true] at h
    simp only [Option.ob_eq, Option.bind_eq_some_iff] at h
    obtain ⟨n, h1, b, h2, h3⟩ := h
    cases h3
    obtain ⟨k, rfl⟩ := natOf_VR h1 hj
    have hd := isStrD_eq hc
    have hg : s[n]? = some b := by
      have hn : n < s.data.toList.length := (List.getElem?_eq_some_iff.1 h2).1
      have hn' : n < s.size := by rw [← bytes_length]; exact hn
      rw [getElem?_pos s n hn']
      congr 1
      have h3 : s.data.toList[n] = b := (List.getElem?_eq_some_iff.1 h2).2
      rw [← h3]
      simp [ByteArray.getElem_eq_getElem_data]
    refine Does.same hR (v' := bytesV b) ?_ (.int _ _)
    simp [Instr.index, asIntOf, run_underlying hd, hg, bytesV]
end
end
end Go.Proofs.YtgdlpgakhhebeaaGreatDoor.Ev
end
