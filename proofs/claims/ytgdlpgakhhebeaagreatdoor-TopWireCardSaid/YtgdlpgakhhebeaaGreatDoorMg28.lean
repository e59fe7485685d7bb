/- Part 28 of the proof of TopWire: Evm, Evc, Eve. -/
import Derived.Laws.BytesString
import Derived.Lib.ConvBytes
import Derived.RangeFuncLeaves
import Derived.RangeFuncNested
import Derived.Test.YtgdlpgakhhebeaaGreatDoorMg27
section
set_option linter.unusedVariables false
namespace Go.Proofs.YtgdlpgakhhebeaaGreatDoor.Ev
open Go
noncomputable section

theorem Row.notObj {W : World} {k : Nat} {C : Array Value} {e : TypeId} {sg : Nat → Pl} {N : Nat} {o : AObj} {o' : Obj} (h : Row W k C e) (hk : W.heap[k]? = some o') (ho : OR sg N o o') : False := by
  obtain ⟨_, fz, h, _⟩ := h
  rw [h] at hk
  cases hk
  exact ho.notCells _ _ _ rfl
theorem aobj_get {H : ASt} {r : Nat} {o : AObj} (hr : r < 1000000000000) (x : Nat) : (aobj H r o).heap.get x = if x = r then some (.obj o) else H.heap.get x := T.get_set _ _ _ _ hr
/-- An object is set. -/
theorem R.setObj {sg : Nat → Pl} {H : ASt} {W : World} (hR : R sg H W) {r : Nat} {o o2 : AObj} {o2' : Obj} (h : H.heap.get r = some (.obj o)) (ho : OR sg H.next o2 o2') :
    R sg (aobj H r o2) (W.putObj (sg r).1 o2') ∧ Fr sg H W sg (aobj H r o2) (W.putObj (sg r).1 o2') := by
  obtain ⟨o1, h1, h2⟩ := hR.obj r o h
  have hlt := hR.lt r _ h
  have hbig := hR.big
  have hget := aobj_get (H := H) (o := o2) (show r < 1000000000000 by omega)
  have hsz : (sg r).1 < W.heap.size := (Array.getElem?_eq_some_iff.1 h1).1
  have hoth : ∀ x B, H.heap.get x = some (.cells B) → (sg x).1 ≠ (sg r).1 := fun x B hx e => by
    obtain ⟨C, hC, _⟩ := hR.cells x B hx
    rw [e] at hC
    exact hC.notObj h1 h2
  refine ⟨⟨hR.pos, fun b x hb => ?_, hR.big, fun b B hb => ?_, fun b x hb => ?_, fun b B hb => ?_, fun b b' B B' hb hb' => ?_, fun b b' x x' hb hb' => ?_, fun b B hb => ?_⟩, ⟨Ext.refl _ _, Nat.le_refl _, rfl, rfl, rfl, by simp, fun k hk hn => ?_, fun b x hb => ?_⟩⟩
  · rw [hget] at hb
    split at hb
    · rename_i e; subst e; exact hlt
    · exact hR.lt b x hb
  · rw [hget] at hb
    split at hb
    · cases hb
    · obtain ⟨C, hC, hbr⟩ := hR.cells b B hb
      exact ⟨C, hC.congr (World.putObj_heap_other (hoth b B hb)), hbr⟩
  · rw [hget] at hb
    split at hb
    · rename_i e
      subst e
      cases hb
      exact ⟨o2', World.putObj_heap_same hsz, ho⟩
    · rename_i hbr
      obtain ⟨y, hy, hyr⟩ := hR.obj b x hb
      refine ⟨y, (World.putObj_heap_other (fun e => hbr (hR.alone b r _ _ hb h e))).trans hy, hyr⟩
  · rw [hget] at hb
    split at hb
    · cases hb
    · exact hR.kin b B hb
  · rw [hget] at hb hb'
    split at hb
    · cases hb
    · split at hb'
      · cases hb'
      · exact hR.apart b b' B B' hb hb'
  · rw [hget] at hb hb'
    split at hb
    · rename_i e
      subst e
      split at hb'
      · rename_i e'; exact fun _ => e'.symm
      · exact hR.alone b b' o x' h hb'
    · split at hb'
      · rename_i e'
        subst e'
        exact hR.alone b b' x o hb h
      · exact hR.alone b b' x x' hb hb'
  · rw [hget] at hb
    split at hb
    · cases hb
    · obtain ⟨C, hC, hbr⟩ := hR.room b B hb
      exact ⟨C, hC.congr (World.putObj_heap_other (hoth b B hb)), hbr⟩
  · exact World.putObj_heap_other (fun e => hn r _ h e.symm)
  · rw [hget] at hb
    split at hb
    · rename_i e; subst e; exact .inl ⟨b, _, h, rfl⟩
    · exact .inl ⟨b, x, hb, rfl⟩
/-- A new object. -/
theorem R.newObj {sg : Nat → Pl} {H H' : ASt} {W : World} (hR : R sg H W) {o : AObj} {o' : Obj} (h : anewObj H o = some H') (ho : OR sg H.next o o') :
    R (tell sg H.next ⟨W.heap.size, 0, 0, 0⟩) H' (W.alloc o') ∧ Fr sg H W (tell sg H.next ⟨W.heap.size, 0, 0, 0⟩) H' (W.alloc o') ∧ H'.next = H.next + 1 ∧ H'.heap.get H.next = some (.obj o) := by
  unfold anewObj at h
  cases hc : Nat.blt (H.next + 1) 1000000000000 with
  | false => rw [hc] at h; cases h
  | true =>
  rw [hc] at h
  cases h
  have hc : H.next + 1 < 1000000000000 := by simpa [Nat.blt_eq] using hc
  have hget : ∀ x, (H.heap.set H.next (AO.obj o)).get x = if x = H.next then some (AO.obj o) else H.heap.get x := fun x => T.get_set _ _ _ _ hR.big
  have he := tell_ext sg H.next ⟨W.heap.size, 0, 0, 0⟩
  have hself : tell sg H.next ⟨W.heap.size, 0, 0, 0⟩ H.next = ⟨W.heap.size, 0, 0, 0⟩ := if_pos rfl
  have hold : ∀ x o, H.heap.get x = some o → tell sg H.next ⟨W.heap.size, 0, 0, 0⟩ x = sg x := fun x o hx => he x (hR.lt x o hx).2
  have hpush := hR.push o'
  refine ⟨⟨Nat.succ_pos _, fun b x hb => ?_, hc, fun b B hb => ?_, fun b x hb => ?_, fun b B hb => ?_, fun b b' B B' hb hb' => ?_, fun b b' x x' hb hb' => ?_, fun b B hb => ?_⟩, ⟨he, Nat.le_succ _, rfl, rfl, rfl, by simp, fun k hk hn => ?_, fun b x hb => ?_⟩, rfl, by rw [hget, if_pos rfl]⟩
  · rw [hget] at hb
    split at hb
    · rename_i e; subst e; exact ⟨hR.pos, Nat.lt_succ_self _⟩
    · have := hR.lt b x hb; exact ⟨this.1, Nat.lt_succ_of_lt this.2⟩
  · rw [hget] at hb
    split at hb
    · cases hb
    · obtain ⟨C, hC, hbr⟩ := hpush.cells b B hb
      rw [hold b _ hb]
      exact ⟨C, hC, fun i hi => by obtain ⟨v, v', q1, q2, q3⟩ := hbr i hi; exact ⟨v, v', q1, q2, q3.ext he (Nat.le_succ _)⟩⟩
  · rw [hget] at hb
    split at hb
    · rename_i e
      subst e
      cases hb
      refine ⟨o', ?_, ho.ext he (Nat.le_succ _)⟩
      rw [hself]
      exact World.alloc_heap_new W o'
    · obtain ⟨y, hy, hyr⟩ := hpush.obj b x hb
      rw [hold b _ hb]
      exact ⟨y, hy, hyr.ext he (Nat.le_succ _)⟩
  · rw [hget] at hb
    split at hb
    · cases hb
    · obtain ⟨q1, q2⟩ := hR.kin b B hb
      exact ⟨Nat.lt_succ_of_lt q1, q2⟩
  · rw [hget] at hb hb'
    split at hb
    · cases hb
    · split at hb'
      · cases hb'
      · rw [hold b _ hb, hold b' _ hb']
        exact hR.apart b b' B B' hb hb'
  · rw [hget] at hb hb'
    split at hb
    · rename_i e
      subst e
      split at hb'
      · rename_i e'; exact fun _ => e'.symm
      · rw [hself, hold b' _ hb']
        intro e
        have := hR.inside hb'
        simp only at e
        omega
    · split at hb'
      · rename_i e'
        subst e'
        rw [hself, hold b _ hb]
        intro e
        have := hR.inside hb
        simp only at e
        omega
      · rw [hold b _ hb, hold b' _ hb']
        exact hR.alone b b' x x' hb hb'
  · rw [hget] at hb
    split at hb
    · cases hb
    · obtain ⟨C, hC, hbr⟩ := hpush.room b B hb
      rw [hold b _ hb]
      exact ⟨C, hC, hbr⟩
  · show (W.heap.push o')[k]? = _
    rw [Array.getElem?_push, if_neg (by omega)]
  · rw [hget] at hb
    split at hb
    · rename_i e
      subst e
      exact .inr (by rw [hself]; exact Nat.le_refl _)
    · exact .inl ⟨b, x, hb, by rw [hold b _ hb]⟩
end
end Go.Proofs.YtgdlpgakhhebeaaGreatDoor.Ev
end
section
set_option linter.unusedVariables false
namespace Go.Proofs.YtgdlpgakhhebeaaGreatDoor.Ev
open Go
noncomputable section

/-- The run of an operation is as that which leaves v and H'. -/
def DoesV (P : Program) (sg : Nat → Pl) (H : ASt) (W : World) (s : Sem Next) (v : Value) (H' : ASt) : Prop :=
  ∃ v' sg' W', s.run P W = .ok (.value v') W' ∧ R sg' H' W' ∧ Fr sg H W sg' H' W' ∧ VR sg' H'.next v v'
section
variable {P : Program} {sg : Nat → Pl} {H : ASt} {W : World}
theorem Does.next {s : Sem Value} {v : Value} {H' : ASt} (h : Does P sg H W s v H') : DoesV P sg H W (do pure (.value (← s))) v H' := by
  obtain ⟨v', sg', W', h1, h2⟩ := h
  refine ⟨v', sg', W', ?_, h2⟩
  show (s >>= fun x => pure (Next.value x)).run P W = _
  rw [Sem.run_bind, h1]
  rfl
theorem Does.same (hR : R sg H W) {s : Sem Value} {v v' : Value} (h : s.run P W = .ok v' W) (hv : VR sg H.next v v') : Does P sg H W s v H := ⟨v', sg, W, h, hR, Fr.refl _ _ _, hv⟩
theorem DoesV.same (hR : R sg H W) {s : Sem Next} {v v' : Value} (h : s.run P W = .ok (.value v') W) (hv : VR sg H.next v v') : DoesV P sg H W s v H := ⟨v', sg, W, h, hR, Fr.refl _ _ _, hv⟩

/-- Values of a form. -/
theorem VR.int_eq {N : Nat} {k : IntKind} {n : Int} {v' : Value} (h : VR sg N (.int k n) v') : v' = .int k n := by cases h; rfl
theorem VR.bool_eq {N : Nat} {b : Bool} {v' : Value} (h : VR sg N (.bool b) v') : v' = .bool b := by cases h; rfl
theorem VR.str_eq {N : Nat} {s : ByteArray} {v' : Value} (h : VR sg N (.string s) v') : v' = .string s := by cases h; rfl
theorem VR.nilSl {N : Nat} {v' : Value} (h : VR sg N (.slice none 0 0) v') : v' = .slice none 0 0 := by cases h; rfl
theorem VR.ptr_eq {N b o : Nat} {v' : Value} (h : VR sg N (.pointer (some ⟨b, o, none⟩)) v') : b < N ∧ v' = .pointer (some ⟨(sg b).1, (sg b).2 + o, none⟩) := by cases h; exact ⟨by assumption, rfl⟩
theorem ptrOf_eq {v : Value} {p : Nat × Nat} (h : ptrOf v = some p) : v = .pointer (some ⟨p.1, p.2, none⟩) := by
  unfold ptrOf at h
  split at h
  · cases h; rfl
  · cases h
theorem natOf_eq {v : Value} {n : Nat} (h : natOf v = some n) : ∃ k, v = .int k (n : Int) := by
  unfold natOf at h
  split at h
  · cases h; exact ⟨_, rfl⟩
  · cases h
theorem natOf_VR {N : Nat} {v v' : Value} {n : Nat} (h : natOf v = some n) (hv : VR sg N v v') : ∃ k, v' = .int k (n : Int) := by
  obtain ⟨k, rfl⟩ := natOf_eq h
  exact ⟨k, hv.int_eq⟩
theorem sizeP_eq {t : TypeId} {k : Nat} (h : sizeP P t = some k) : ∃ i, P.info? t = some i ∧ i.size = k := by
  unfold sizeP at h
  simp only [Option.ob_eq, Option.bind_eq_some_iff] at h
  obtain ⟨i, h1, h2⟩ := h
  cases h2
  exact ⟨i, h1, rfl⟩
theorem constV_eq {v u : Value} (h : constV v = some u) : v = u ∧ bare 9 v = true := by
  unfold constV at h
  rw [T.bi_eq] at h
  cases hb : bare 9 v with
  | false => rw [hb] at h; cases h
  | true => rw [hb] at h; cases h; exact ⟨rfl, rfl⟩
theorem zeroV_eq {t : TypeId} {z : Value} (h : zeroV P t = some z) : ∃ i, P.info? t = some i ∧ i.zero = some z ∧ bare 9 z = true := by
  unfold zeroV at h
  simp only [Option.ob_eq, Option.bind_eq_some_iff] at h
  obtain ⟨i, h1, z', h2, h3⟩ := h
  obtain ⟨rfl, h4⟩ := constV_eq h3
  exact ⟨i, h1, h2, h4⟩
theorem zeroL_eq {t : TypeId} {l : List Value} (h : zeroL P t = some l) : ∃ i z, P.info? t = some i ∧ i.zero = some z ∧ bare 9 z = true ∧ l = z.cells.toList := by
  unfold zeroL at h
  simp only [Option.ob_eq, Option.bind_eq_some_iff] at h
  obtain ⟨i, h1, z, h2, h3⟩ := h
  cases hb : bare 9 z with
  | false => rw [hb] at h3; cases h3
  | true => rw [hb] at h3; cases h3; exact ⟨i, z, h1, h2, hb, rfl⟩
theorem sliceElem_eq {t e : TypeId} (h : sliceElem P t = some e) : P.underlying t = some (.slice e) := by
  unfold sliceElem at h
  split at h
  · rename_i e' he; cases h; exact he
  · cases h
theorem bare_cells {n : Nat} {z : Value} (h : bare n z = true) : ∀ v ∈ z.cells.toList, bare n v = true := by
  cases z with
  | agg vs =>
    cases n with
    | zero => simp [bare] at h
    | succ n =>
      have h' : vs.toList.all (bare n) = true := h
      intro v hv
      have hm := List.all_eq_true.1 h' v hv
      exact bare_mono n v hm
  | _ => intro v hv; simp [Value.cells] at hv; subst hv; exact h
where bare_mono : ∀ (n : Nat) (v : Value), bare n v = true → bare (n + 1) v = true
  | n, v, h => by
    cases v with
    | iface t v => cases n with
      | zero => simp [bare] at h
      | succ n => exact bare_mono n v h
    | agg vs => cases n with
      | zero => simp [bare] at h
      | succ n =>
        have h' : vs.toList.all (bare n) = true := h
        show vs.toList.all (bare (n + 1)) = true
        rw [List.all_eq_true] at h' ⊢
        exact fun v hv => bare_mono n v (h' v hv)
    | tuple vs => cases n with
      | zero => simp [bare] at h
      | succ n =>
        have h' : vs.toList.all (bare n) = true := h
        show vs.toList.all (bare (n + 1)) = true
        rw [List.all_eq_true] at h' ⊢
        exact fun v hv => bare_mono n v (h' v hv)
    | bool b => rfl
    | int k n => rfl
    | string s => rfl
    | pointer a => cases a <;> cases n <;> first | rfl | (simp [bare] at h)
    | slice a m c => cases a <;> cases n <;> cases m <;> cases c <;> first | rfl | (simp [bare] at h)
    | map r => cases r <;> cases n <;> first | rfl | (simp [bare] at h)
    | chan r => cases r <;> cases n <;> first | rfl | (simp [bare] at h)
    | nilFunc => rfl
    | nilIface => rfl
    | float k n => cases n <;> simp [bare] at h
    | complex k a b => cases n <;> simp [bare] at h
    | func f a b => cases n <;> simp [bare] at h
theorem LR.bare {N n : Nat} {l : List Value} (h : ∀ v ∈ l, bare n v = true) : LR sg N l l :=
  ⟨rfl, fun i v v' a b => by rw [a] at b; cases b; exact VR.of_bare n _ (h _ (List.mem_of_getElem? a))⟩
theorem zerosL_mem {z : List Value} : ∀ (n : Nat) (v : Value), v ∈ zerosL z n → v ∈ z
  | 0, v, h => by cases h
  | n + 1, v, h => by
    simp only [zerosL, List.mem_append] at h
    exact h.elim id (zerosL_mem n v)
theorem zerosL_length (z : List Value) : ∀ n, (zerosL z n).length = n * z.length
  | 0 => by simp [zerosL]
  | n + 1 => by simp only [zerosL, List.length_append, zerosL_length z n, Nat.succ_mul]; omega
theorem zerosL_get (z : List Value) (hz : 0 < z.length) : ∀ (n i : Nat), i < n * z.length → (zerosL z n)[i]? = z[i % z.length]?
  | 0, i, h => by simp at h
  | n + 1, i, h => by
    simp only [zerosL]
    rcases Nat.lt_or_ge i z.length with hi | hi
    · rw [List.getElem?_append_left hi, Nat.mod_eq_of_lt hi]
    · rw [List.getElem?_append_right hi, zerosL_get z hz n _ (by rw [Nat.succ_mul] at h; omega), Nat.mod_eq_sub_mod hi]

/-! ### Loads, stores, places -/
theorem loadAt_ok (hR : R sg H W) {t : TypeId} {a a' v : Value} (ha : VR sg H.next a a') (h : aloadAt P t a H = some v) : Does P sg H W (Instr.loadAt t a') v H := by
  unfold aloadAt at h
  simp only [Option.ob_eq, Option.bind_eq_some_iff] at h
  obtain ⟨p, h1, d, h2, k, h3, h4⟩ := h
  obtain ⟨i, hi, rfl⟩ := sizeP_eq h3
  have := ptrOf_eq h1
  subst this
  obtain ⟨hb, rfl⟩ := ha.ptr_eq
  exact load_run hR h2 hi h4
theorem storeAt_ok (hR : R sg H W) {t : TypeId} {a a' v v' : Value} {H' : ASt} (ha : VR sg H.next a a') (hv : VR sg H.next v v') (h : astoreAt P t a v H = some H') :
    ∃ W', (Instr.storeAt t a' v').run P W = .ok () W' ∧ R sg H' W' ∧ Fr sg H W sg H' W' ∧ H'.next = H.next := by
  unfold astoreAt at h
  simp only [Option.ob_eq, Option.bind_eq_some_iff] at h
  obtain ⟨p, h1, k, h3, h4⟩ := h
  obtain ⟨i, hi, rfl⟩ := sizeP_eq h3
  have := ptrOf_eq h1
  subst this
  obtain ⟨hb, rfl⟩ := ha.ptr_eq
  cases hc : Nat.beq v.cells.toList.length i.size with
  | false => rw [hc] at h4; cases h4
  | true =>
    rw [hc, cond_true] at h4
    exact store_run hR hi hv (by simpa [Nat.beq_eq] using hc) h4
theorem fieldOf_eq {t f : Nat} {fd : Field} (h : fieldOf P t f = some fd) : ∃ fs, P.underlying t = some (.struct fs) ∧ fs[f]? = some fd := by
  unfold fieldOf at h
  split at h
  · rename_i fs hfs; exact ⟨fs, hfs, by simpa using h⟩
  · cases h
theorem fieldAt_ok (hR : R sg H W) {t : TypeId} {a a' v : Value} {f : Nat} (ha : VR sg H.next a a') (h : afield P t a f = some v) : Does P sg H W (Instr.fieldAt t a' f) v H := by
  unfold afield at h
  simp only [Option.ob_eq, Option.bind_eq_some_iff] at h
  obtain ⟨p, h1, fd, h2, k, h3, h4⟩ := h
  obtain ⟨i, hi, rfl⟩ := sizeP_eq h3
  obtain ⟨fs, hfs, hfd⟩ := fieldOf_eq h2
  have := ptrOf_eq h1
  subst this
  obtain ⟨hb, rfl⟩ := ha.ptr_eq
  cases hc : Nat.beq i.size 0 with
  | true => rw [hc] at h4; cases h4
  | false =>
    rw [hc, cond_false] at h4
    cases h4
    exact field_run hR hfs hfd hi (fun e => by rw [e] at hc; cases hc) hb
theorem indexAt_ok (hR : R sg H W) {t : TypeId} {x x' j j' v : Value} (hx : VR sg H.next x x') (hj : VR sg H.next j j') (h : aindex P t x j = some v) : Does P sg H W (Instr.indexAt t x' j') v H := by
  unfold aindex at h
  simp only [Option.ob_eq, Option.bind_eq_some_iff] at h
  obtain ⟨n, h1, h2⟩ := h
  obtain ⟨k, rfl⟩ := natOf_VR h1 hj
  unfold aindexD at h2
  split at h2
  · rename_i m e hd
    unfold aindexA at h2
    simp only [Option.ob_eq, Option.bind_eq_some_iff] at h2
    obtain ⟨p, h3, sz, h4, h5⟩ := h2
    obtain ⟨i, hi, rfl⟩ := sizeP_eq h4
    have := ptrOf_eq h3
    subst this
    obtain ⟨hb, rfl⟩ := hx.ptr_eq
    cases hc : Nat.blt n m with
    | false => rw [hc] at h5; cases h5
    | true =>
      rw [hc, cond_true] at h5
      cases h5
      exact index_array_run hR hd hi hb (by simpa [Nat.blt_eq] using hc)
  · rename_i e hd
    unfold aindexS at h2
    split at h2
    · simp only [Option.ob_eq, Option.bind_eq_some_iff] at h2
      obtain ⟨sz, h4, h5⟩ := h2
      obtain ⟨i, hi, rfl⟩ := sizeP_eq h4
      rename_i b o m c
      cases hc : Nat.blt n m with
      | false => rw [hc] at h5; cases h5
      | true =>
        rw [hc, cond_true] at h5
        cases h5
        exact index_slice_run hR hd hi hx (by simpa [Nat.blt_eq] using hc)
    · cases h2
  · cases h2
theorem aggL_eq {v : Value} {l : List Value} (h : aggL v = some l) : ∃ cs, v = .agg cs ∧ l = cs.toList := by
  unfold aggL at h
  split at h
  · rename_i cs; cases h; exact ⟨cs, rfl, rfl⟩
  · cases h
theorem partL_run {N : Nat} {t : TypeId} {cs cs' : Array Value} (hc : AR sg N cs cs') {off : Nat} {v : Value} (h : apartT P t cs.toList off = some v) : ∃ v', (part t cs' off).run P W = .ok v' W ∧ VR sg N v v' := by
  unfold apartT at h
  simp only [Option.ob_eq, Option.bind_eq_some_iff] at h
  obtain ⟨d, hd, k, h3, h4⟩ := h
  obtain ⟨i, hi, rfl⟩ := sizeP_eq h3
  refine part_run hd hi hc ?_
  unfold partL at h4
  unfold apart
  cases hg : isAggD d with
  | true =>
    rw [hg, cond_true] at h4
    cases h4
    rw [cond_true]
    congr 2
    apply Array.toList_inj.1
    simp [Array.toList_extract, List.extract_eq_take_drop]
  | false =>
    rw [hg, cond_false] at h4
    rw [cond_false]
    simpa using h4
theorem field_ok (hR : R sg H W) {t : TypeId} {x x' v : Value} {f : Nat} (hx : VR sg H.next x x') (h : afieldOf P t x f = some v) : Does P sg H W (Instr.field t x' f) v H := by
  unfold afieldOf at h
  simp only [Option.ob_eq, Option.bind_eq_some_iff] at h
  obtain ⟨l, h1, fd, h2, h3⟩ := h
  obtain ⟨cs, rfl, rfl⟩ := aggL_eq h1
  obtain ⟨fs, hfs, hfd⟩ := fieldOf_eq h2
  cases hx with
  | agg cs cs' e1 e3 =>
    obtain ⟨v', q1, q2⟩ := partL_run (P := P) (W := W) ⟨e1, e3⟩ h3
    exact Does.same hR (by simp [Instr.field, run_underlying hfs, hfd, asAgg, q1]) q2
theorem index_ok (hR : R sg H W) {t : TypeId} {x x' j j' v : Value} (hx : VR sg H.next x x') (hj : VR sg H.next j j') (h : aindexOf P t x j = some v) : Does P sg H W (Instr.index t x' j') v H := by
  unfold aindexOf at h
  simp only [Option.ob_eq, Option.bind_eq_some_iff] at h
  obtain ⟨l, h1, n, h2, p, h3, sz, h4, h5⟩ := h
  obtain ⟨cs, rfl, rfl⟩ := aggL_eq h1
  obtain ⟨k, rfl⟩ := natOf_VR h2 hj
  obtain ⟨i, hi, rfl⟩ := sizeP_eq h4
  have hd : P.underlying t = some (.array p.1 p.2) := by
    unfold arrayOf at h3
    split at h3
    · rename_i m e he; cases h3; exact he
    · cases h3
  cases hc : Nat.blt n p.1 with
  | false => rw [hc] at h5; cases h5
  | true =>
    rw [hc, cond_true] at h5
    have hn : n < p.1 := by simpa [Nat.blt_eq] using hc
    cases hx with
    | agg cs cs' e1 e3 =>
      obtain ⟨v', q1, q2⟩ := partL_run (P := P) (W := W) ⟨e1, e3⟩ h5
      have q1' : (part p.2 cs' (n * i.size)).run P W = .ok v' W := q1
      exact Does.same hR (by simp [Instr.index, asIntOf, run_underlying hd, hn, sizeOf, typeInfo, hi, q1']) q2
end
end
end Go.Proofs.YtgdlpgakhhebeaaGreatDoor.Ev
end
section
set_option linter.unusedVariables false
namespace Go.Proofs.YtgdlpgakhhebeaaGreatDoor.Ev
open Go
noncomputable section
section
variable {P : Program} {sg : Nat → Pl} {H : ASt} {W : World}

/-! ### Literals -/
theorem fold_list : ∀ (xs : List Value) (k off : Nat) (a : Array Value), ∀ j, ((xs.zipIdx k).foldl (fun (cs : Array Value) (p : Value × Nat) => cs.setIfInBounds (off + p.2) p.1) a)[j]? = if off + k ≤ j ∧ j < off + k + xs.length ∧ j < a.size then xs[j - (off + k)]? else a[j]?
  | [], k, off, a, j => by simp; intro h1 h2; omega
  | x :: xs, k, off, a, j => by
    rw [List.zipIdx_cons, List.foldl_cons, fold_list xs (k + 1) off]
    simp only [Array.size_setIfInBounds, List.length_cons, Array.getElem?_setIfInBounds]
    by_cases h1 : off + (k + 1) ≤ j ∧ j < off + (k + 1) + xs.length ∧ j < a.size
    · rw [if_pos h1, if_pos (by omega), show j - (off + k) = (j - (off + (k + 1))) + 1 by omega, List.getElem?_cons_succ]
    · rw [if_neg h1]
      by_cases h2 : off + k = j
      · subst h2
        by_cases h3 : off + k < a.size
        · simp [h3]
        · rw [if_pos rfl, if_neg h3, if_neg (by omega), Array.getElem?_eq_none (by omega)]
      · rw [if_neg h2, if_neg (by omega)]
theorem putL_eq (a : Array Value) (off : Nat) (x : Array Value) (h : off + x.size ≤ a.size) :
    x.zipIdx.foldl (fun cs (c, j) => cs.setIfInBounds (off + j) c) a = (putL a.toList off x.toList).toArray := by
  rw [fold_eq]
  apply Array.ext_getElem?
  intro j
  rw [fold_list]
  simp only [putL, Nat.add_eq, Nat.add_zero, Array.length_toList, List.getElem?_toArray]
  rcases Nat.lt_or_ge j off with h1 | h1
  · rw [if_neg (by omega), List.getElem?_append_left (by rw [List.length_take]; simp; omega), List.getElem?_take_of_lt h1]
    simp
  · have hl : (List.take off a.toList).length = off := by simp; omega
    rw [List.getElem?_append_right (by omega), hl]
    rcases Nat.lt_or_ge j (off + x.size) with h2 | h2
    · rw [if_pos ⟨by omega, h2, by omega⟩, List.getElem?_append_left (by simp; omega)]
    · rw [if_neg (by omega), List.getElem?_append_right (by simp; omega), List.getElem?_drop]
      simp only [Array.length_toList, Array.getElem?_toList]
      congr 1
      omega
theorem fillL_eq (place : Nat → Option (Nat × Nat)) : ∀ (ps : List (Nat × Value)) (cells l : List Value), fillL place ps cells = some l → Instr.fill place cells.toArray ps = some l.toArray
  | [], cells, l, h => by cases h; rfl
  | (i, v) :: ps, cells, l, h => by
    unfold fillL at h
    simp only [Option.ob_eq, Option.bind_eq_some_iff] at h
    obtain ⟨q, h1, h2⟩ := h
    cases hc : (Nat.beq v.cells.toList.length q.2 && Nat.ble (Nat.add q.1 q.2) cells.length) with
    | false => rw [hc] at h2; cases h2
    | true =>
      rw [hc, cond_true] at h2
      simp only [Bool.and_eq_true, Nat.beq_eq, Nat.ble_eq, Array.length_toList, Nat.add_eq] at hc
      have ih := fillL_eq place ps _ _ h2
      unfold Instr.fill
      rw [h1]
      simp only
      rw [if_neg (by simp; omega), putL_eq _ _ _ (by simp; omega)]
      exact ih
theorem build_ok (hR : R sg H W) {t : TypeId} {parts parts' : List (Nat × Value)} {v : Value} (hp : PR sg H.next parts parts') (h : abuild P t parts = some v) : Does P sg H W (Instr.build t parts'.toArray) v H := by
  unfold abuild at h
  simp only [Option.ob_eq, Option.bind_eq_some_iff] at h
  obtain ⟨zl, h1, h2⟩ := h
  obtain ⟨i, z, hi, hz, hb, rfl⟩ := zeroL_eq h1
  have hzA : AR sg H.next z.cells z.cells := AR.bare (n := 9) (List.all_eq_true.2 (bare_cells hb))
  unfold abuildAt at h2
  split at h2
  · rename_i fs hfs
    simp only [Option.ob_eq, Option.bind_eq_some_iff] at h2
    obtain ⟨pl, h3, l, h4, h5⟩ := h2
    cases h5
    have hf := fillL_eq _ _ _ _ h4
    simp only [Array.toArray_toList] at hf
    obtain ⟨cs', q1, q2⟩ := fill_AR _ _ _ _ _ _ hp hzA hf
    refine Does.same hR (run_build W t parts'.toArray cs' ?_) (.agg _ _ (by simpa using q2.1) (fun j u u' a b => q2.2 j u u' (by simpa using a) b))
    unfold placesOf at h3
    simp only [Program.built, hi, hfs, hz, h3, List.toList_toArray, List.getElem?_toArray]
    exact q1
  · rename_i m e hfs
    simp only [Option.ob_eq, Option.bind_eq_some_iff] at h2
    obtain ⟨k, h3, l, h4, h5⟩ := h2
    obtain ⟨ie, hie, rfl⟩ := sizeP_eq h3
    cases h5
    have hf := fillL_eq _ _ _ _ h4
    simp only [Array.toArray_toList] at hf
    obtain ⟨cs', q1, q2⟩ := fill_AR _ _ _ _ _ _ hp hzA hf
    refine Does.same hR (run_build W t parts'.toArray cs' ?_) (.agg _ _ (by simpa using q2.1) (fun j u u' a b => q2.2 j u u' (by simpa using a) b))
    simp only [Program.built, hi, hfs, hz, hie, List.toList_toArray]
    exact q1
  · cases h2
/-- A new row and the slice upon it. -/
theorem newRowL_ok (hR : R sg H W) {s' : Sem Value} {l : List Value} {C' : Array Value} {n c c' elem st e' : Nat} {r : Value} {H' : ASt} {fz : Nat × Nat} {W' : World}
    (hW' : W'.heap[W.heap.size]? = some (.cells C' e' fz)) (hfz : ∀ i, i < C'.size → (decide (fz.1 ≤ i) && decide (i < fz.2)) = false) (hold : ∀ k, k < W.heap.size → W'.heap[k]? = W.heap[k]?) (w1 : W'.os = W.os) (w2 : W'.output = W.output) (w3 : W'.tape = W.tape) (w4 : W.heap.size ≤ W'.heap.size)
    (hl : ∀ (i : Nat) (v : Value), l[i]? = some v → ∃ v', C'[i]? = some v' ∧ VR sg H.next v v') (hnc : n ≤ c) (hcc : c = c' ∨ c ≤ c' ∧ c' * st ≤ C'.size)
    (hrun : s'.run P W = .ok (.slice (some ⟨W.heap.size, 0, none⟩) n c') W') (h : newRowL H l n c elem st = some (r, H')) : Does P sg H W s' r H' := by
  unfold newRowL at h
  simp only [Option.ob_eq, Option.bind_eq_some_iff] at h
  obtain ⟨H1, h1, h2⟩ := h
  cases h2
  have hRW : R sg H W' := hR.world (fun b o hb => hold _ (hR.inside hb))
  have hadd := hRW.add h1 (k := W.heap.size) (off := 0) (C := C') ⟨e', fz, hW', hfz⟩ (fun i v hi => by simpa using hl i v hi) (fun x B hx e => by have := hR.inside hx; omega)
  refine ⟨_, _, _, hrun, hadd.1, ⟨tell_ext _ _ _, by rw [hadd.2]; exact Nat.le_succ _, w1, w2, w3, w4, fun k hk _ => hold k hk, fun x o hx => ?_⟩, ?_⟩
  · have hget := aadd_get hR.big h1 x
    rw [hget] at hx
    split at hx
    · rename_i e; subst e; exact .inr (by simp [tell])
    · exact .inl ⟨x, o, hx, by rw [tell_ext sg H.next ⟨W.heap.size, 0, C'.size, st⟩ x (hR.lt x o hx).2]⟩
  · rw [hadd.2]
    have := VR.sl (sg := tell sg H.next ⟨W.heap.size, 0, C'.size, st⟩) (N := H.next + 1) H.next 0 n c c' (Nat.lt_succ_self _) hR.pos hnc (by omega) (by
      rcases hcc with e | ⟨e1, e2⟩
      · exact .inl e
      · exact .inr (by rw [show tell sg H.next ⟨W.heap.size, 0, C'.size, st⟩ H.next = ⟨W.heap.size, 0, C'.size, st⟩ from if_pos rfl]; simpa using e2))
    rw [show tell sg H.next ⟨W.heap.size, 0, C'.size, st⟩ H.next = ⟨W.heap.size, 0, C'.size, st⟩ from if_pos rfl] at this
    exact this
theorem newRowL_push (hR : R sg H W) {s' : Sem Value} {l : List Value} {C' : Array Value} {n c elem st e' : Nat} {r : Value} {H' : ASt}
    (hl : ∀ (i : Nat) (v : Value), l[i]? = some v → ∃ v', C'[i]? = some v' ∧ VR sg H.next v v') (hnc : n ≤ c)
    (hrun : s'.run P W = .ok (.slice (some ⟨W.heap.size, 0, none⟩) n c) (W.alloc (.cells C' e'))) (h : newRowL H l n c elem st = some (r, H')) : Does P sg H W s' r H' :=
  newRowL_ok hR (W' := W.alloc (.cells C' e')) (fz := (0, 0)) (World.alloc_heap_new W _) (fun i _ => by simp) (fun k hk => by show (W.heap.push _)[k]? = _; rw [Array.getElem?_push, if_neg (by omega)]) rfl rfl rfl (by show _ ≤ (W.heap.push _).size; simp) hl hnc (.inl rfl) hrun h
theorem zeros_eq {z : Value} {size len : Nat} (hz : z.cells.toList.length = size) (hpos : 0 < len * size) : zeros z (len * size) = (zerosL z.cells.toList len).toArray := by
  have hs : z.cells.size = size := by simpa using hz
  have h0 : 0 < z.cells.toList.length := by
    rw [hz]; exact Nat.pos_of_ne_zero (fun e => by simp [e] at hpos)
  apply Array.ext_getElem?
  intro j
  simp only [zeros, List.getElem?_toArray]
  rcases Nat.lt_or_ge j (len * size) with hj | hj
  · rw [zerosL_get _ h0 _ _ (by rw [hz]; exact hj), hz]
    have hm : j % size < z.cells.size := by rw [hs]; exact Nat.mod_lt _ (by rw [hz] at h0; exact h0)
    simp [hj, hs, getElem!_pos z.cells (j % size) hm, hm]
  · rw [List.getElem?_eq_none (by rw [zerosL_length, hz]; exact hj)]
    simp [hj]
theorem buildSlice_ok (hR : R sg H W) {t : TypeId} {len : Nat} {parts parts' : List (Nat × Value)} {r : Value} {H' : ASt} (hp : PR sg H.next parts parts') (h : abuildSlice P t len parts H = some (r, H')) :
    Does P sg H W (Instr.buildSlice t len parts'.toArray) r H' := by
  unfold abuildSlice at h
  simp only [Option.ob_eq, Option.bind_eq_some_iff] at h
  obtain ⟨e, h1, k, h2, h3⟩ := h
  obtain ⟨i, hi, rfl⟩ := sizeP_eq h2
  have hd := sliceElem_eq h1
  cases hc : Nat.beq len 0 with
  | true =>
    rw [hc, cond_true] at h3
    have hl : len = 0 := by simpa [Nat.beq_eq] using hc
    subst hl
    unfold abuildSlice0 at h3
    split at h3
    case h_2 => cases h3
    cases parts' with
    | cons p l => exact hp.elim
    | nil =>
      refine newRowL_push hR (C' := #[]) (e' := e) (fun i v hi => by cases hi) (Nat.le_refl _) ?_ h3
      simp [Instr.buildSlice, run_underlying hd, sizeOf, typeInfo, hi, Instr.fill, newRow, newObj, Sem.run]
      have e0 : Array.map (fun _ : Nat => (default : Value)) (Array.range 0) = #[] := by apply Array.ext <;> simp
      rw [e0]
  | false =>
    rw [hc, cond_false] at h3
    simp only [Option.ob_eq, Option.bind_eq_some_iff] at h3
    obtain ⟨zl, h4, h5⟩ := h3
    obtain ⟨i', z, hi', hz, hb, rfl⟩ := zeroL_eq h4
    rw [hi] at hi'
    cases hi'
    cases hc2 : (Nat.beq z.cells.toList.length i.size && (Nat.ble (Nat.mul len i.size) 16777216 && Nat.blt 0 (Nat.mul len i.size))) with
    | false => rw [hc2] at h5; cases h5
    | true =>
    rw [hc2, cond_true] at h5
    simp only [Bool.and_eq_true, Nat.beq_eq, Nat.ble_eq, Nat.blt_eq, Nat.mul_eq] at hc2
    obtain ⟨c1, c2, c3⟩ := hc2
    simp only [Option.ob_eq, Option.bind_eq_some_iff] at h5
    obtain ⟨l, h6, h7⟩ := h5
    have hf := fillL_eq _ _ _ _ h6
    rw [← zeros_eq c1 c3] at hf
    have hzA : AR sg H.next (zeros z (len * i.size)) (zeros z (len * i.size)) := by
      rw [zeros_eq c1 c3]
      exact AR.bare (n := 9) (List.all_eq_true.2 (fun v hv => bare_cells hb v (zerosL_mem len v (by simpa using hv))))
    obtain ⟨C', q1, q2⟩ := fill_AR _ _ _ _ _ _ hp hzA hf
    refine newRowL_push hR (C' := C') (e' := e) (fun j v hj => ?_) (Nat.le_refl _) (run_buildSlice W t e len parts'.toArray C' i z hd hi hz (by omega) (by omega) q1) h7
    have hj' : l.toArray[j]? = some v := by simpa using hj
    have h8 : j < l.toArray.size := (Array.getElem?_eq_some_iff.1 hj').1
    have h9 : j < C'.size := by rw [← q2.1]; exact h8
    exact ⟨C'[j], Array.getElem?_eq_getElem h9, q2.2 j v _ hj' (Array.getElem?_eq_getElem h9)⟩
theorem makeSlice_ok (hR : R sg H W) {t : TypeId} {l c : Nat} {kl kc : IntKind} {r : Value} {H' : ASt} (h : amakeSlice P t l c H = some (r, H')) : Does P sg H W (Instr.makeSlice t (.int kl l) (.int kc c)) r H' := by
  unfold amakeSlice at h
  simp only [Option.ob_eq, Option.bind_eq_some_iff] at h
  obtain ⟨e, h1, i, hi, zl, h4, h5⟩ := h
  have hd := sliceElem_eq h1
  obtain ⟨i', z, hi', hz, hb, rfl⟩ := zeroL_eq h4
  rw [hi] at hi'
  cases hi'
  cases hc : (Nat.beq z.cells.toList.length i.size && (Nat.ble l c && (Nat.ble (Nat.mul i.bytes c) 281474976710656 && Nat.ble c 9223372036854775807))) with
  | false => rw [hc] at h5; cases h5
  | true =>
  rw [hc, cond_true] at h5
  simp only [Bool.and_eq_true, Nat.beq_eq, Nat.ble_eq, Nat.mul_eq] at hc
  obtain ⟨c1, c2, c3, c4⟩ := hc
  have hb' : (i.bytes : Int) * (c : Int) ≤ 281474976710656 := by
    have h : ((i.bytes * c : Nat) : Int) ≤ 281474976710656 := by omega
    rwa [Int.natCast_mul] at h
  have hr := run_make (P := P) W t e i z hd hi hz kl kc l c (by omega) (by omega) hb' (by omega)
  simp only [Int.toNat_natCast] at hr
  refine newRowL_push hR (e' := e) (fun j v hj => ?_) c2 hr h5
  have h8 : j < c * i.size := by
    have := (List.getElem?_eq_some_iff.1 hj).1
    rw [zerosL_length, c1] at this
    exact this
  have h0 : 0 < z.cells.toList.length := by
    rw [c1]; exact Nat.pos_of_ne_zero (fun e => by simp [e] at h8)
  rw [zerosL_get _ h0 _ _ (by rw [c1]; exact h8), c1] at hj
  have hs : z.cells.size = i.size := by simpa using c1
  have hm : j % i.size < z.cells.size := by rw [hs]; exact Nat.mod_lt _ (by rw [c1] at h0; exact h0)
  refine ⟨v, ?_, VR.of_bare 9 v (bare_cells hb v (List.mem_of_getElem? hj))⟩
  simp only [madeCells]
  simp [h8, hs, getElem!_pos z.cells (j % i.size) hm]
  simpa [hm] using hj

/-! ### Slices -/
theorem bound_spec {N : Nat} {v v' : Option Value} {d n : Nat} (h : bound d v = some n) (hv : (v = none ∧ v' = none) ∨ ∃ u u', v = some u ∧ v' = some u' ∧ VR sg N u u') : (v' = none ∧ n = d) ∨ ∃ k, v' = some (.int k (n : Int)) := by
  rcases hv with ⟨rfl, rfl⟩ | ⟨u, u', rfl, rfl, hu⟩
  · cases h; exact .inl ⟨rfl, rfl⟩
  · obtain ⟨k, rfl⟩ := natOf_VR h hu
    exact .inr ⟨k, rfl⟩
/-- What an operand that may be wanting stands for. -/
def OptR (sg : Nat → Pl) (N : Nat) (v v' : Option Value) : Prop := (v = none ∧ v' = none) ∨ ∃ u u', v = some u ∧ v' = some u' ∧ VR sg N u u'
theorem strideIs_eq {b k : Nat} (h : strideIs H b k = true) : ∃ B, H.heap.get b = some (.cells B) ∧ B.stride = k := by
  unfold strideIs at h
  split at h
  · rename_i B hB; exact ⟨B, hB, by simpa [Nat.beq_eq] using h⟩
  · cases h
theorem slice_ok (hR : R sg H W) {t : TypeId} {x x' v : Value} {lo lo' hi hi' : Option Value} (hx : VR sg H.next x x') (hlo : OptR sg H.next lo lo') (hhi : OptR sg H.next hi hi') (h : aslice P t x lo hi H = some v) :
    Does P sg H W (Instr.sliceAt t x' lo' hi' none) v H := by
  unfold aslice at h
  simp only [Option.ob_eq, Option.bind_eq_some_iff] at h
  obtain ⟨l, h1, h2⟩ := h
  have hl := bound_spec h1 hlo
  unfold asliceD at h2
  split at h2
  · rename_i e hd
    simp only [Option.ob_eq, Option.bind_eq_some_iff] at h2
    obtain ⟨k, h3, h4⟩ := h2
    obtain ⟨i, hi0, rfl⟩ := sizeP_eq h3
    unfold asliceS at h4
    split at h4
    · simp only [Option.ob_eq, Option.bind_eq_some_iff] at h4
      obtain ⟨hh, h5, h6⟩ := h4
      have hhs := bound_spec h5 hhi
      cases hc : (Nat.beq l 0 && Nat.beq hh 0) with
      | false => rw [hc] at h6; cases h6
      | true =>
        rw [hc, cond_true] at h6
        cases h6
        simp only [Bool.and_eq_true, Nat.beq_eq] at hc
        obtain ⟨rfl, rfl⟩ := hc
        cases hx.nilSl
        refine Does.same hR (v' := .slice none 0 0) ?_ .slNil
        rcases hl with ⟨rfl, _⟩ | ⟨k, rfl⟩ <;> rcases hhs with ⟨rfl, _⟩ | ⟨k', rfl⟩ <;>
          simp [Instr.sliceAt, Instr.slice, Instr.sliceBounds, Instr.sliceBound, asIntOf, run_underlying hd, sizeOf, typeInfo, hi0]
    · rename_i b o n c
      simp only [Option.ob_eq, Option.bind_eq_some_iff] at h4
      obtain ⟨hh, h5, h6⟩ := h4
      have hhs := bound_spec h5 hhi
      cases hc : (Nat.ble l hh && (Nat.ble hh c && strideIs H b i.size)) with
      | false => rw [hc] at h6; cases h6
      | true =>
        rw [hc, cond_true] at h6
        cases h6
        simp only [Bool.and_eq_true, Nat.ble_eq] at hc
        obtain ⟨c1, c2, c3⟩ := hc
        refine slice_run hR hd hi0 hx ?_ ?_ c1 c2 (strideIs_eq c3)
        · rcases hl with ⟨e1, e2⟩ | e
          · exact .inl ⟨e1, e2⟩
          · exact .inr e
        · rcases hhs with ⟨e1, e2⟩ | e
          · exact .inl ⟨e1, e2⟩
          · exact .inr e
    · cases h4
  · rename_i n e hd
    simp only [Option.ob_eq, Option.bind_eq_some_iff] at h2
    obtain ⟨k, h3, h4⟩ := h2
    obtain ⟨i, hi0, rfl⟩ := sizeP_eq h3
    unfold asliceA at h4
    simp only [Option.ob_eq, Option.bind_eq_some_iff] at h4
    obtain ⟨p, h7, hh, h5, h6⟩ := h4
    have hhs := bound_spec h5 hhi
    have := ptrOf_eq h7
    subst this
    obtain ⟨hb, rfl⟩ := hx.ptr_eq
    cases hc : (Nat.ble l hh && (Nat.ble hh n && Nat.blt 0 p.1)) with
    | false => rw [hc] at h6; cases h6
    | true =>
      rw [hc, cond_true] at h6
      cases h6
      simp only [Bool.and_eq_true, Nat.ble_eq, Nat.blt_eq] at hc
      obtain ⟨c1, c2, c3⟩ := hc
      have hthis := slice_array_run (P := P) (W := W) hR hd hi0 (b := p.1) (off := p.2) (l := l) (h := hh) hb c3 (lo := lo') (hi' := hi') (by
        rcases hl with ⟨e1, e2⟩ | e
        · exact .inl ⟨e1, e2⟩
        · exact .inr e) (by
        rcases hhs with ⟨e1, e2⟩ | e
        · exact .inl ⟨e1, e2⟩
        · exact .inr e) c1 c2
      have e : (bif Nat.beq n l then p.2 else Nat.add p.2 (Nat.mul l i.size)) = (if n = l then p.2 else p.2 + l * i.size) := by
        by_cases hnl : n = l
        · rw [if_pos hnl, hnl, show Nat.beq l l = true from Nat.beq_refl l]; rfl
        · rw [if_neg hnl]
          cases hq : Nat.beq n l with
          | true => exact absurd (Nat.eq_of_beq_eq_true hq) hnl
          | false => rfl
      rw [e]
      exact hthis
  · cases h2
theorem slice3_ok (hR : R sg H W) {t : TypeId} {x x' v m m' : Value} {lo lo' hi hi' : Option Value} (hx : VR sg H.next x x') (hlo : OptR sg H.next lo lo') (hhi : OptR sg H.next hi hi') (hm : VR sg H.next m m') (h : aslice3 P t x lo hi m H = some v) :
    Does P sg H W (Instr.sliceAt t x' lo' hi' (some m')) v H := by
  unfold aslice3 at h
  simp only [Option.ob_eq, Option.bind_eq_some_iff] at h
  obtain ⟨l, h1, u, hu, hh, h2, mm, h3, e, h4, k, h5, h6⟩ := h
  have hl := bound_spec h1 hlo
  obtain ⟨km, rfl⟩ := natOf_VR h3 hm
  have hd := sliceElem_eq h4
  obtain ⟨i, hi0, rfl⟩ := sizeP_eq h5
  rcases hhi with ⟨rfl, _⟩ | ⟨u1, u', e1, rfl, hur⟩
  · cases hu
  rw [hu] at e1
  cases e1
  obtain ⟨kh, rfl⟩ := natOf_VR h2 hur
  unfold aslice3S at h6
  split at h6
  · cases hc : (Nat.beq l 0 && (Nat.beq hh 0 && Nat.beq mm 0)) with
    | false => rw [hc] at h6; cases h6
    | true =>
      rw [hc, cond_true] at h6
      cases h6
      simp only [Bool.and_eq_true, Nat.beq_eq] at hc
      obtain ⟨rfl, rfl, rfl⟩ := hc
      cases hx.nilSl
      refine Does.same hR (v' := .slice none 0 0) ?_ .slNil
      rcases hl with ⟨rfl, _⟩ | ⟨k, rfl⟩ <;>
        simp [Instr.sliceAt, Instr.slice, Instr.sliceBounds, Instr.sliceBound, asIntOf, run_underlying hd, sizeOf, typeInfo, hi0]
  · rename_i b o n c
    cases hc : (Nat.ble l hh && (Nat.ble hh mm && (Nat.ble mm c && strideIs H b i.size))) with
    | false => rw [hc] at h6; cases h6
    | true =>
      rw [hc, cond_true] at h6
      cases h6
      simp only [Bool.and_eq_true, Nat.ble_eq] at hc
      obtain ⟨c1, c2, c3, c4⟩ := hc
      cases hx with
      | sl b off n c c' hb h0 hn hcc hr =>
        have hrun : (Instr.sliceAt t (.slice (some ⟨(sg b).1, (sg b).2 + o, none⟩) n c') lo' (some (.int kh hh)) (some (.int km mm))).run P W = .ok (.slice (some (if mm = l then ⟨(sg b).1, (sg b).2 + o, none⟩ else ⟨(sg b).1, (sg b).2 + o + l * i.size, none⟩)) (hh - l) (mm - l)) W := by
          have k1 : mm ≤ c' := by omega
          rcases hl with ⟨rfl, rfl⟩ | ⟨k, rfl⟩ <;>
            (simp [Instr.sliceAt, Instr.slice, Instr.sliceBounds, Instr.sliceBound, asIntOf, run_underlying hd, sizeOf, typeInfo, hi0, k1, c1, c2, add_eq]
             try (split <;> simp_all))
        refine Does.same hR hrun ?_
        show VR sg H.next (.slice (some ⟨b, o + l * i.size, none⟩) (hh - l) (mm - l)) _
        by_cases hml : mm = l
        · have e1 : hh - l = 0 := by omega
          have e2 : mm - l = 0 := by omega
          rw [if_pos hml, e1, e2]
          exact .slE b _ _ _ hb h0
        · rw [if_neg hml, Nat.add_assoc (sg b).2]
          exact VR.sl b _ _ _ _ hb h0 (by omega) (Nat.le_refl _) (.inl rfl)
      | slE b off x y hb h0 =>
        have e1 : hh = 0 := by omega
        have e2 : l = 0 := by omega
        have e3 : mm = 0 := by omega
        subst e1; subst e2; subst e3
        have hrun : (Instr.sliceAt t (.slice (some ⟨x, y, none⟩) 0 0) lo' (some (.int kh (0 : Nat))) (some (.int km (0 : Nat)))).run P W = .ok (.slice (some ⟨x, y, none⟩) 0 0) W := by
          rcases hl with ⟨rfl, _⟩ | ⟨k, rfl⟩ <;>
            simp [Instr.sliceAt, Instr.slice, Instr.sliceBounds, Instr.sliceBound, asIntOf, run_underlying hd, sizeOf, typeInfo, hi0]
        exact Does.same hR hrun (.slE b _ x y hb h0)
  · cases h6
end
end
end Go.Proofs.YtgdlpgakhhebeaaGreatDoor.Ev
end
