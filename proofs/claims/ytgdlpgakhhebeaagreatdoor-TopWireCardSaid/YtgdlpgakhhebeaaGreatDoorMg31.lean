/- Part 31 of the proof of TopWire: Evk, Evl. -/
import Derived.Test.YtgdlpgakhhebeaaGreatDoorMg30
section
set_option linter.unusedVariables false
namespace Go.Proofs.YtgdlpgakhhebeaaGreatDoor.Ev
open Go
noncomputable section
section
variable {P : Program} {sg : Nat → Pl} {H : ASt} {W : World}

/-- What an operation's run is as. -/
def DoesN (P : Program) (sg : Nat → Pl) (H : ASt) (W : World) (s : Sem Next) : ARes → ASt → Prop
  | .val v, H' => DoesV P sg H W s v H'
  | .skip, H' => ∃ sg' W', s.run P W = .ok .skip W' ∧ R sg' H' W' ∧ Fr sg H W sg' H' W'
  | .enter f args, H' => H' = H ∧ hasBody P f = true ∧ ∃ args', s.run P W = (callFunc f args').run P W ∧ LR sg H.next args args'.toList
  | .round l args, H' => H' = H ∧ l < H.next ∧ ∃ args', s.run P W = (Instr.yield (sg l).1 args').run P W ∧ LR sg H.next args args'.toList
theorem val_eq {r : VRes} {a : ARes} {H' : ASt} (h : val r = some (a, H')) : ∃ v, r = some (v, H') ∧ a = .val v := by
  unfold val at h
  simp only [Option.ob_eq, Option.bind_eq_some_iff] at h
  obtain ⟨⟨v, H1⟩, h1, h2⟩ := h
  cases h2
  exact ⟨v, h1, rfl⟩
theorem skp_eq {r : Option ASt} {a : ARes} {H' : ASt} (h : skp r = some (a, H')) : r = some H' ∧ a = .skip := by
  unfold skp at h
  simp only [Option.ob_eq, Option.bind_eq_some_iff] at h
  obtain ⟨H1, h1, h2⟩ := h
  cases h2
  exact ⟨h1, rfl⟩
/-- A value of no change of the world. -/
theorem Does.ret' {s : Sem Value} {r : Option Value} {v : Value} {H' : ASt} (hr : ret H r = some (v, H')) (h : r = some v → Does P sg H W s v H) : DoesV P sg H W (do pure (.value (← s))) v H' := by
  obtain ⟨h1, rfl⟩ := ret_eq hr
  exact (h h1).next
theorem map_arr (ρ : Operand → Value) (a : Array Operand) : a.map ρ = (a.toList.map ρ).toArray := by
  apply Array.toList_inj.1; simp
theorem map_parts (ρ : Operand → Value) (a : Array (Nat × Operand)) : (a.map fun (i, x) => (i, ρ x)) = (a.toList.map fun p => (p.1, ρ p.2)).toArray := by
  apply Array.toList_inj.1; simp
theorem nilCk_ok (hR : R sg H W) {a a' v : Value} (ha : VR sg H.next a a') (h : nilCk a = some v) : a = v ∧ ((∃ p, a' = .pointer (some p)) ∨ (∃ f x y, a' = .func (.func f) x y) ∨ (∃ l x y, a' = .func (.yield l) x y)) := by
  unfold nilCk at h
  split at h
  · cases h; cases ha; exact ⟨rfl, .inl ⟨_, rfl⟩⟩
  · cases h; cases ha; exact ⟨rfl, .inr (.inl ⟨_, _, _, rfl⟩)⟩
  · cases h
    cases ha with
    | func fn f c f' c' hf h1 h2 h3 h4 => exact absurd rfl (hf _)
    | yield l h => exact ⟨rfl, .inr (.inr ⟨_, _, _, rfl⟩)⟩
  · cases h
theorem toArr_ok (hR : R sg H W) {t : TypeId} {n : Nat} {e : TypeId} {a a' v : Value} (hd : P.underlying t = some (.array n e)) (ha : VR sg H.next a a') (h : toArr a n = some v) : Does P sg H W (Instr.arrayAt t a') v H := by
  unfold toArr at h
  split at h
  · rename_i b o l c
    cases hc : (Nat.ble n l && Nat.blt 0 l) with
    | false => rw [hc] at h; cases h
    | true =>
      rw [hc, cond_true] at h
      cases h
      simp only [Bool.and_eq_true, Nat.ble_eq, Nat.blt_eq] at hc
      obtain ⟨c1, c2⟩ := hc
      cases ha with
      | sl b off n' c c' hb h0 hn hcc hr =>
        refine Does.same hR ?_ (.ptr b o hb)
        simp [Instr.arrayAt, run_underlying hd]
        omega
      | slE b off x y hb h0 => omega
  · cases h
theorem makeMap_ok (hR : R sg H W) {t : TypeId} {v : Value} {H' : ASt} (h : newMap H none = some (v, H')) : Does P sg H W (Instr.makeMap t none) v H' := by
  unfold newMap at h
  simp only [Option.ob_eq, Option.bind_eq_some_iff] at h
  obtain ⟨H1, h1, h2⟩ := h
  cases h2
  obtain ⟨r1, r2, r3, r4⟩ := hR.newObj h1 (o' := .map #[] 0) (.map [] #[] 0 rfl (fun i e e' h => by cases h))
  refine ⟨.map (some W.heap.size), _, _, ?_, r1, r2, ?_⟩
  · simp [Instr.makeMap, newObj, Sem.run]
  · rw [r3]
    have := VR.map (sg := tell sg H.next ⟨W.heap.size, 0, 0, 0⟩) (N := H.next + 1) H.next (Nat.lt_succ_self _)
    rw [show tell sg H.next ⟨W.heap.size, 0, 0, 0⟩ H.next = ⟨W.heap.size, 0, 0, 0⟩ from if_pos rfl] at this
    exact this
theorem LR_arr {N : Nat} {l l' : List Value} (h : LR sg N l l') : l.toArray.size = l'.toArray.size ∧ ∀ (i : Nat) (v v' : Value), l.toArray[i]? = some v → l'.toArray[i]? = some v' → VR sg N v v' :=
  ⟨by simpa using h.1, fun i v v' a b => h.2 i v v' (by simpa using a) (by simpa using b)⟩
theorem bare_args {N : Nat} {l l' : List Value} (h : LR sg N l l') (hb : l.all (bare 9) = true) : l' = l := by
  apply List.ext_getElem?
  intro i
  rcases Nat.lt_or_ge i l.length with hi | hi
  · have hi' : i < l'.length := by rw [← h.1]; exact hi
    rw [List.getElem?_eq_getElem hi, List.getElem?_eq_getElem hi']
    congr 1
    exact (h.2 i _ _ (List.getElem?_eq_getElem hi) (List.getElem?_eq_getElem hi')).bare_eq 9 _ _ (List.all_eq_true.1 hb _ (List.getElem_mem hi))
  · rw [List.getElem?_eq_none hi, List.getElem?_eq_none (by rw [← h.1]; exact hi)]
theorem aCallV_ok (hR : R sg H W) {f f' : Value} {args args' : List Value} {a : ARes} {H' : ASt} (hf : VR sg H.next f f') (ha : LR sg H.next args args') (h : aCallV P args H f = some (a, H')) :
    DoesN P sg H W (do let d ← Deferred.ofValue f' args'.toArray; invoke d.target d.args) a H' := by
  unfold aCallV at h
  split at h
  · rename_i g first cap
    cases hf with
    | func fn f c f' c' hfn h1 h2 h3 h4 =>
      have h12 : LR sg H.next (first.toList ++ (args ++ cap.toList)) (f'.toList ++ (args' ++ c'.toList)) :=
        LR.append (l := first.toList) (l' := f'.toList) ⟨by simpa using h1, fun i v v' a b => h3 i v v' (by simpa using a) (by simpa using b)⟩
          (LR.append ha ⟨by simpa using h2, fun i v v' a b => h4 i v v' (by simpa using a) (by simpa using b)⟩)
      have hrun : (do let d ← Deferred.ofValue (.func (.func g) f' c') args'.toArray; invoke d.target d.args : Sem Next).run P W = (callFunc g ((f' ++ args'.toArray) ++ c')).run P W := by
        show (callFunc g ((f' ++ args'.toArray) ++ c')).run P W = _
        rfl
      cases hb : hasBody P g with
      | true =>
        rw [hb, cond_true] at h
        cases h
        exact ⟨rfl, hb, (f' ++ args'.toArray) ++ c', hrun, by simpa [List.append_assoc] using h12⟩
      | false =>
        rw [hb, cond_false] at h
        cases hc : (Nat.beq first.toList.length 0 && Nat.beq cap.toList.length 0) with
        | false => rw [hc] at h; cases h
        | true =>
          rw [hc, cond_true] at h
          obtain ⟨v, h5, rfl⟩ := val_eq h
          obtain ⟨h6, rfl⟩ := ret_eq h5
          simp only [Bool.and_eq_true, Nat.beq_eq, Array.length_toList] at hc
          unfold callBare at h6
          cases hba : args.all (bare 9) with
          | false => rw [hba] at h6; cases h6
          | true =>
            rw [hba, cond_true] at h6
            split at h6
            · rename_i u hu
              obtain ⟨rfl, hbu⟩ := constV_eq h6
              refine DoesV.same hR (v' := u) ?_ (VR.of_bare 9 u hbu)
              rw [hrun]
              have e1 : f' = #[] := Array.eq_empty_of_size_eq_zero (by rw [← h1]; exact hc.1)
              have e2 : c' = #[] := Array.eq_empty_of_size_eq_zero (by rw [← h2]; exact hc.2)
              have e3 := bare_args ha hba
              subst e1; subst e2; subst e3
              have := pureRun_run _ _ hu W
              simpa using this
            · cases h6
  · rename_i l first cap
    cases h
    cases hf with
    | func fn f c f' c' hfn h1 h2 h3 h4 => exact absurd rfl (hfn _)
    | yield l hl =>
      refine ⟨rfl, hl, args'.toArray, ?_, by simpa using ha⟩
      show (Instr.yield (sg l).1 ((#[] : Array Value) ++ args'.toArray)).run P W = _
      simp
  · cases h
set_option maxHeartbeats 4000000 in
/-- THE LAW OF THE OPERATIONS. -/
theorem aexec_ok (hR : R sg H W) {S : T Value} {ρ : Operand → Value} {o : Oper} {a : ARes} {H' : ASt} (ho : Ops sg H.next S ρ o.op.operands.toList) (h : aexec P S H o = some (a, H')) : DoesN P sg H W (execOp ρ o) a H' := by
  rcases o with ⟨d, op, ty, ps, af, g⟩
  have O : ∀ {y : Operand}, y ∈ op.operands.toList → ∀ {v}, opval S y = some v → VR sg H.next v (ρ y) := fun {y} hy {v} hv => ho y hy v hv
  cases op with
  | move x =>
    obtain ⟨v, h1, rfl⟩ := val_eq (show val (ret H (opval S x)) = _ from h)
    obtain ⟨h2, rfl⟩ := ret_eq h1
    exact DoesV.same hR rfl (O (by simp [Op.operands]) h2)
  | assign x =>
    obtain ⟨v, h1, rfl⟩ := val_eq (show val (ret H (opval S x)) = _ from h)
    obtain ⟨h2, rfl⟩ := ret_eq h1
    exact DoesV.same hR rfl (O (by simp [Op.operands]) h2)
  | pick c x y =>
    obtain ⟨v, h1, rfl⟩ := val_eq (show val (vPick c x y P S H _) = _ from h)
    unfold vPick at h1
    simp only [Option.ob_eq, Option.bind_eq_some_iff] at h1
    obtain ⟨u, h2, h3⟩ := h1
    unfold pickV at h3
    split at h3
    · rename_i b
      obtain ⟨h4, rfl⟩ := ret_eq h3
      have hc := (O (by simp [Op.operands]) h2).bool_eq
      cases b with
      | true => exact DoesV.same hR (v' := ρ x) (by show (asBool (ρ c) >>= _).run P W = _; rw [hc]; rfl) (O (by simp [Op.operands]) h4)
      | false => exact DoesV.same hR (v' := ρ y) (by show (asBool (ρ c) >>= _).run P W = _; rw [hc]; rfl) (O (by simp [Op.operands]) h4)
    · cases h3
  | alloc t =>
    obtain ⟨v, h1, rfl⟩ := val_eq (show val (vAlloc t P S H _) = _ from h)
    unfold vAlloc at h1
    simp only [Option.ob_eq, Option.bind_eq_some_iff] at h1
    obtain ⟨z, h2, h3⟩ := h1
    obtain ⟨i, hi, hz, hb⟩ := zeroV_eq h2
    exact Does.next (alloc_run hR hi hz 9 hb h3)
  | box t x =>
    obtain ⟨v, h1, rfl⟩ := val_eq (show val (vBox t x P S H _) = _ from h)
    unfold vBox at h1
    simp only [Option.ob_eq, Option.bind_eq_some_iff] at h1
    obtain ⟨z, h2, h3⟩ := h1
    exact Does.next (box_run hR (O (by simp [Op.operands]) h2) h3)
  | build t parts =>
    obtain ⟨v, h1, rfl⟩ := val_eq (show val (vBuild t parts P S H _) = _ from h)
    unfold vBuild at h1
    simp only [Option.ob_eq, Option.bind_eq_some_iff] at h1
    obtain ⟨l, h2, h3⟩ := h1
    refine Does.ret' (s := Instr.build t (parts.map fun (i, x) => (i, ρ x))) h3 (fun h4 => ?_)
    rw [map_parts]
    exact build_ok hR (opparts_PR _ _ (fun y hy => ho y (by simpa [Op.operands] using hy)) h2) h4
  | buildSlice t n parts =>
    obtain ⟨v, h1, rfl⟩ := val_eq (show val (vBuildSlice t n parts P S H _) = _ from h)
    unfold vBuildSlice at h1
    simp only [Option.ob_eq, Option.bind_eq_some_iff] at h1
    obtain ⟨l, h2, h3⟩ := h1
    refine Does.next (s := Instr.buildSlice t n (parts.map fun (i, x) => (i, ρ x))) ?_
    rw [map_parts]
    exact buildSlice_ok hR (opparts_PR _ _ (fun y hy => ho y (by simpa [Op.operands] using hy)) h2) h3
  | load t x =>
    obtain ⟨v, h1, rfl⟩ := val_eq (show val (vLoad t x P S H _) = _ from h)
    unfold vLoad at h1
    simp only [Option.ob_eq, Option.bind_eq_some_iff] at h1
    obtain ⟨u, h2, h3⟩ := h1
    exact Does.ret' (s := Instr.loadAt t (ρ x)) h3 (loadAt_ok hR (O (by simp [Op.operands]) h2))
  | store t x y =>
    have h' : (opval S x).ob (fun a => (opval S y).ob fun v => skp (astoreAt P t a v H)) = some (a, H') := h
    simp only [Option.ob_eq, Option.bind_eq_some_iff] at h'
    obtain ⟨u, h1, v, h2, h3⟩ := h'
    obtain ⟨h4, rfl⟩ := skp_eq h3
    obtain ⟨W', q1, q2, q3, q4⟩ := storeAt_ok hR (O (y := x) (by simp [Op.operands]) h1) (O (y := y) (by simp [Op.operands]) h2) h4
    refine ⟨sg, W', ?_, q2, q3⟩
    show (Instr.storeAt t (ρ x) (ρ y) >>= fun _ => pure Next.skip).run P W = _
    rw [Sem.run_bind, q1]
    rfl
  | nilCheck x =>
    obtain ⟨v, h1, rfl⟩ := val_eq (show val (vNilCheck x P S H _) = _ from h)
    unfold vNilCheck at h1
    simp only [Option.ob_eq, Option.bind_eq_some_iff] at h1
    obtain ⟨u, h2, h3⟩ := h1
    obtain ⟨h4, rfl⟩ := ret_eq h3
    have hv := O (by simp [Op.operands]) h2
    obtain ⟨rfl, h5⟩ := nilCk_ok hR hv h4
    refine DoesV.same hR (v' := ρ x) ?_ hv
    rcases h5 with ⟨p, h5⟩ | ⟨f, y, z, h5⟩ | ⟨l, y, z, h5⟩ <;> simp [execOp, h5]
  | binOp op t x y u =>
    obtain ⟨v, h1, rfl⟩ := val_eq (show val (vBin op t x y u P S H _) = _ from h)
    exact bin_ok hR (fun z hz => ho z (by simpa [Op.operands] using hz)) h1
  | unOp op t x =>
    obtain ⟨v, h1, rfl⟩ := val_eq (show val (vUn op t x P S H _) = _ from h)
    unfold vUn at h1
    simp only [Option.ob_eq, Option.bind_eq_some_iff] at h1
    obtain ⟨u, h2, h3⟩ := h1
    exact Does.ret' (s := Op.unary op (ρ x)) h3 (un_ok hR (O (by simp [Op.operands]) h2))
  | convert s t x =>
    obtain ⟨v, h1, rfl⟩ := val_eq (show val (vConvert s t x P S H _) = _ from h)
    exact convert_ok hR (fun z hz => ho z (by simpa [Op.operands] using hz)) h1
  | sliceToArrayPointer t x =>
    obtain ⟨v, h1, rfl⟩ := val_eq (show val (vToArray t x P S H _) = _ from h)
    unfold vToArray at h1
    simp only [Option.ob_eq, Option.bind_eq_some_iff] at h1
    obtain ⟨u, h2, p, h3, h4⟩ := h1
    have hd : P.underlying t = some (.array p.1 p.2) := by
      unfold arrayOf at h3
      split at h3
      · rename_i m e he; cases h3; exact he
      · cases h3
    exact Does.ret' (s := Instr.arrayAt t (ρ x)) h4 (toArr_ok hR hd (O (by simp [Op.operands]) h2))
  | makeInterface t x =>
    obtain ⟨v, h1, rfl⟩ := val_eq (show val (vMakeInterface t x P S H _) = _ from h)
    unfold vMakeInterface at h1
    simp only [Option.ob_eq, Option.bind_eq_some_iff] at h1
    obtain ⟨u, h2, h3⟩ := h1
    refine Does.ret' (s := Instr.makeInterface t (ρ x)) h3 (fun h4 => ?_)
    unfold ifaceV at h4
    split at h4
    · cases h4
    · rename_i dd hni hd
      cases h4
      refine Does.same hR (v' := .iface t (ρ x)) ?_ (.iface t _ _ (O (by simp [Op.operands]) h2))
      unfold Instr.makeInterface
      rw [Sem.run_bind, run_underlying hd]
      cases dd <;> first | rfl | exact absurd rfl (hni _)
    · cases h4
  | makeFunc fn first cap =>
    obtain ⟨v, h1, rfl⟩ := val_eq (show val (vMakeFunc fn first cap P S H _) = _ from h)
    unfold vMakeFunc at h1
    simp only [Option.ob_eq, Option.bind_eq_some_iff] at h1
    obtain ⟨l, h2, k, h3, h4⟩ := h1
    refine Does.ret' (s := Instr.makeFunc fn (first.map ρ) (cap.map ρ)) h4 (fun h5 => ?_)
    have hl := opvals_LR _ _ (fun y hy => ho y (by simp [Op.operands] at hy ⊢; exact .inl hy)) h2
    have hk := opvals_LR _ _ (fun y hy => ho y (by simp [Op.operands] at hy ⊢; exact .inr hy)) h3
    unfold funcV at h5
    split at h5
    · rename_i f
      cases h5
      refine Does.same hR (v' := .func (.func f) (first.map ρ) (cap.map ρ)) rfl ?_
      rw [map_arr, map_arr]
      exact .func _ _ _ _ _ (fun l e => by cases e) (LR_arr hl).1 (LR_arr hk).1 (LR_arr hl).2 (LR_arr hk).2
    · cases h5
  | makeMap t r =>
    obtain ⟨v, h1, rfl⟩ := val_eq (show val (newMap H r) = _ from h)
    cases r with
    | none => exact Does.next (s := Instr.makeMap t none) (makeMap_ok hR h1)
    | some r => cases h1
  | makeSlice t l c =>
    obtain ⟨v, h1, rfl⟩ := val_eq (show val (vMakeSlice t l c P S H _) = _ from h)
    unfold vMakeSlice at h1
    simp only [Option.ob_eq, Option.bind_eq_some_iff] at h1
    obtain ⟨u, h2, w, h3, n, h4, m, h5, h6⟩ := h1
    obtain ⟨kl, e1⟩ := natOf_VR h4 (O (y := l) (by simp [Op.operands]) h2)
    obtain ⟨kc, e2⟩ := natOf_VR h5 (O (y := c) (by simp [Op.operands]) h3)
    refine Does.next (s := Instr.makeSlice t (ρ l) (ρ c)) ?_
    rw [e1, e2]
    exact makeSlice_ok hR h6
  | slice t x lo hi mx =>
    obtain ⟨v, h1, rfl⟩ := val_eq (show val (vSlice t x lo hi mx P S H _) = _ from h)
    unfold vSlice at h1
    simp only [Option.ob_eq, Option.bind_eq_some_iff] at h1
    obtain ⟨u, h2, lo', h3, hi', h4, h5⟩ := h1
    have hx := O (y := x) (by simp [Op.operands]) h2
    have hlo : OptR sg H.next lo' (lo.map ρ) := opt_OptR (fun y hy v hv => O (by subst hy; simp [Op.operands]) hv) h3
    have hhi : OptR sg H.next hi' (hi.map ρ) := opt_OptR (fun y hy v hv => O (by subst hy; simp [Op.operands]) hv) h4
    unfold sliceV at h5
    split at h5
    · rename_i s
      cases hc : isStrD (P.underlying t) with
      | false => rw [hc] at h5; cases h5
      | true =>
        rw [hc, cond_true] at h5
        refine Does.ret' (s := Instr.sliceAt t (ρ x) (lo.map ρ) (hi.map ρ) none) h5 (fun h6 => ?_)
        rw [hx.str_eq]
        exact sliceStr_ok hR (isStrD_eq hc) hlo hhi h6
    · exact Does.ret' (s := Instr.sliceAt t (ρ x) (lo.map ρ) (hi.map ρ) none) h5 (slice_ok hR hx hlo hhi)
    · rename_i m
      simp only [Option.ob_eq, Option.bind_eq_some_iff] at h5
      obtain ⟨w, h6, h7⟩ := h5
      exact Does.ret' (s := Instr.sliceAt t (ρ x) (lo.map ρ) (hi.map ρ) (some (ρ m))) h7 (slice3_ok hR hx hlo hhi (O (by simp [Op.operands]) h6))
  | fieldAddr t x f =>
    obtain ⟨v, h1, rfl⟩ := val_eq (show val (vFieldAddr t x f P S H _) = _ from h)
    unfold vFieldAddr at h1
    simp only [Option.ob_eq, Option.bind_eq_some_iff] at h1
    obtain ⟨u, h2, h3⟩ := h1
    exact Does.ret' (s := Instr.fieldAt t (ρ x) f) h3 (fieldAt_ok hR (O (by simp [Op.operands]) h2))
  | field t x f =>
    obtain ⟨v, h1, rfl⟩ := val_eq (show val (vField t x f P S H _) = _ from h)
    unfold vField at h1
    simp only [Option.ob_eq, Option.bind_eq_some_iff] at h1
    obtain ⟨u, h2, h3⟩ := h1
    exact Does.ret' (s := Instr.field t (ρ x) f) h3 (field_ok hR (O (by simp [Op.operands]) h2))
  | indexAddr t x i =>
    obtain ⟨v, h1, rfl⟩ := val_eq (show val (vIndexAddr t x i P S H _) = _ from h)
    unfold vIndexAddr at h1
    simp only [Option.ob_eq, Option.bind_eq_some_iff] at h1
    obtain ⟨u, h2, w, h3, h4⟩ := h1
    exact Does.ret' (s := Instr.indexAt t (ρ x) (ρ i)) h4 (indexAt_ok hR (O (y := x) (by simp [Op.operands]) h2) (O (y := i) (by simp [Op.operands]) h3))
  | index t x i =>
    obtain ⟨v, h1, rfl⟩ := val_eq (show val (vIndex t x i P S H _) = _ from h)
    unfold vIndex at h1
    simp only [Option.ob_eq, Option.bind_eq_some_iff] at h1
    obtain ⟨u, h2, w, h3, h4⟩ := h1
    have hx := O (y := x) (by simp [Op.operands]) h2
    have hi := O (y := i) (by simp [Op.operands]) h3
    refine Does.ret' (s := Instr.index t (ρ x) (ρ i)) h4 (fun h5 => ?_)
    unfold indexV at h5
    split at h5
    · rw [hx.str_eq]; exact byteAt_ok hR hi h5
    · exact index_ok hR hx hi h5
  | lookup t x i ok =>
    obtain ⟨v, h1, rfl⟩ := val_eq (show val (vLookup t x i ok P S H _) = _ from h)
    unfold vLookup at h1
    simp only [Option.ob_eq, Option.bind_eq_some_iff] at h1
    obtain ⟨u, h2, w, h3, h4⟩ := h1
    exact Does.ret' (s := Instr.lookup t (ρ x) (ρ i) ok) h4 (lookup_ok hR (O (y := x) (by simp [Op.operands]) h2) (O (y := i) (by simp [Op.operands]) h3))
  | mapUpdate t m k x =>
    have h' : (opval S m).ob (fun m => (opval S k).ob fun k => (opval S x).ob fun v => skp (amapUpdate P t m k v H)) = some (a, H') := h
    simp only [Option.ob_eq, Option.bind_eq_some_iff] at h'
    obtain ⟨u, h1, w, h2, v, h3, h4⟩ := h'
    obtain ⟨h5, rfl⟩ := skp_eq h4
    obtain ⟨W', q1, q2, q3⟩ := mapUpdate_ok hR (O (y := m) (by simp [Op.operands]) h1) (O (y := k) (by simp [Op.operands]) h2) (O (y := x) (by simp [Op.operands]) h3) h5
    refine ⟨sg, W', ?_, q2, q3⟩
    show (Instr.mapUpdate t (ρ m) (ρ k) (ρ x) >>= fun _ => pure Next.skip).run P W = _
    rw [Sem.run_bind, q1]
    rfl
  | insert t m k x =>
    have h' : (opval S m).ob (fun m => (opval S k).ob fun k => (opval S x).ob fun v => skp (amapUpdate P t m k v H)) = some (a, H') := h
    simp only [Option.ob_eq, Option.bind_eq_some_iff] at h'
    obtain ⟨u, h1, w, h2, v, h3, h4⟩ := h'
    obtain ⟨h5, rfl⟩ := skp_eq h4
    obtain ⟨W', q1, q2, q3⟩ := mapUpdate_ok hR (O (y := m) (by simp [Op.operands]) h1) (O (y := k) (by simp [Op.operands]) h2) (O (y := x) (by simp [Op.operands]) h3) h5
    refine ⟨sg, W', ?_, q2, q3⟩
    show (Instr.mapUpdate t (ρ m) (ρ k) (ρ x) >>= fun _ => pure Next.skip).run P W = _
    rw [Sem.run_bind, q1]
    rfl
  | extract x j =>
    obtain ⟨v, h1, rfl⟩ := val_eq (show val (vExtract x j P S H _) = _ from h)
    unfold vExtract at h1
    simp only [Option.ob_eq, Option.bind_eq_some_iff] at h1
    obtain ⟨u, h2, h3⟩ := h1
    refine Does.ret' (s := Instr.extract (ρ x) j) h3 (fun h4 => ?_)
    unfold aextract at h4
    split at h4
    · rename_i vs
      exact extract_run hR (O (by simp [Op.operands]) h2) (by simpa using h4)
    · cases h4
  | call c =>
    rcases c with ⟨callee, args, ts⟩
    cases callee with
    | value f =>
      have h' : (opval S f).ob (fun f => (opvals S args.toList).ob fun l => aCallV P l H f) = some (a, H') := h
      simp only [Option.ob_eq, Option.bind_eq_some_iff] at h'
      obtain ⟨u, h1, l, h2, h3⟩ := h'
      have hf := O (y := f) (by simp [Op.operands, Call.operands]) h1
      have hl := opvals_LR _ _ (fun y hy => ho y (by simp [Op.operands, Call.operands] at hy ⊢; exact .inr hy)) h2
      have := aCallV_ok hR hf hl h3
      rw [← map_arr] at this
      exact this
    | invoke r m => cases h
    | builtin b =>
      obtain ⟨v, h1, rfl⟩ := val_eq (show val (vBuiltin b ⟨.builtin b, args, ts⟩ P S H _) = _ from h)
      have hops : Ops sg H.next S ρ args.toList := fun y hy => ho y (by simp [Op.operands, Call.operands] at hy ⊢; exact hy)
      have hpure : apure P S H ⟨d, .call ⟨.builtin b, args, ts⟩, ty, ps, af, g⟩ = some (v, H') → DoesV P sg H W (execOp ρ ⟨d, .call ⟨.builtin b, args, ts⟩, ty, ps, af, g⟩) v H' := fun h => apure_ok hR (fun cs b e => by cases e) ho h
      have two : ∀ {x y : Value}, opvals S args.toList = some [x, y] → ∃ x' y', args.map ρ = #[x', y'] ∧ VR sg H.next x x' ∧ VR sg H.next y y' := fun h => by
        have hl := opvals_LR _ _ hops h
        match hm : args.toList.map ρ with
        | [x', y'] => rw [hm] at hl; exact ⟨x', y', by rw [map_arr, hm], hl.2 0 _ _ rfl rfl, hl.2 1 _ _ rfl rfl⟩
        | [] => rw [hm] at hl; have := hl.1; simp at this
        | [_] => rw [hm] at hl; have := hl.1; simp at this
        | _ :: _ :: _ :: _ => rw [hm] at hl; have := hl.1; simp at this
      have one : ∀ {x : Value}, opvals S args.toList = some [x] → ∃ x', args.map ρ = #[x'] ∧ VR sg H.next x x' := fun h => by
        have hl := opvals_LR _ _ hops h
        match hm : args.toList.map ρ with
        | [x'] => rw [hm] at hl; exact ⟨x', by rw [map_arr, hm], hl.2 0 _ _ rfl rfl⟩
        | [] => rw [hm] at hl; have := hl.1; simp at this
        | _ :: _ :: _ => rw [hm] at hl; have := hl.1; simp at this
      have tsL : ∀ {l : List TypeId}, ts.toList = l → ts = l.toArray := fun h => by apply Array.toList_inj.1; simpa using h
      unfold vBuiltin at h1
      split at h1
      · simp only [Option.ob_eq, Option.bind_eq_some_iff] at h1
        obtain ⟨l, h2, h3⟩ := h1
        unfold bAppend at h3
        split at h3
        · rename_i s x t tx hts
          obtain ⟨s', x', e1, q1, q2⟩ := two h2
          have := append_ok (P := P) (W := W) (ty := ty) hR q1 q2 h3
          rw [← e1] at this
          rw [show (#[t, tx] : Array TypeId) = ts from (tsL hts).symm] at this
          exact this.next
        · cases h3
      · simp only [Option.ob_eq, Option.bind_eq_some_iff] at h1
        obtain ⟨l, h2, h3⟩ := h1
        unfold bLen at h3
        split at h3
        · rename_i x t hts
          obtain ⟨x', e1, q1⟩ := one h2
          refine Does.ret' (s := Builtin.len_ ts ty (args.map ρ)) h3 (fun h4 => ?_)
          rw [e1, tsL hts]
          exact len_ok hR q1 h4
        · cases h3
      · simp only [Option.ob_eq, Option.bind_eq_some_iff] at h1
        obtain ⟨l, h2, h3⟩ := h1
        unfold bCopy at h3
        split at h3
        · rename_i s x t tx hts
          cases hc : (sliceElem P tx).isSome with
          | false => rw [hc] at h3; cases h3
          | true =>
            rw [hc, cond_true] at h3
            obtain ⟨s', x', e1, q1, q2⟩ := two h2
            have := copy_ok (P := P) (W := W) (tx := tx) (ty := ty) hR q1 q2 h3
            rw [← e1] at this
            rw [show (#[t, tx] : Array TypeId) = ts from (tsL hts).symm] at this
            exact this.next
        · cases h3
      · simp only [Option.ob_eq, Option.bind_eq_some_iff] at h1
        obtain ⟨l, h2, h3⟩ := h1
        unfold bDelete at h3
        split at h3
        · rename_i s x t tx hts
          obtain ⟨s', x', e1, q1, q2⟩ := two h2
          unfold unitV at h3
          simp only [Option.ob_eq, Option.bind_eq_some_iff] at h3
          obtain ⟨H1, h4, h5⟩ := h3
          cases h5
          have := delete_ok (P := P) (W := W) (tx := tx) (ty := ty) hR q1 q2 h4
          rw [← e1] at this
          rw [show (#[t, tx] : Array TypeId) = ts from (tsL hts).symm] at this
          exact this.next
        · cases h3
      · simp only [Option.ob_eq, Option.bind_eq_some_iff] at h1
        obtain ⟨l, h2, h3⟩ := h1
        unfold bClear at h3
        split at h3
        · rename_i x t hts
          obtain ⟨x', e1, q1⟩ := one h2
          unfold unitV at h3
          simp only [Option.ob_eq, Option.bind_eq_some_iff] at h3
          obtain ⟨H1, h4, h5⟩ := h3
          cases h5
          have := clear_ok (P := P) (W := W) (ty := ty) hR q1 h4
          rw [← e1] at this
          rw [show (#[t] : Array TypeId) = ts from (tsL hts).symm] at this
          exact this.next
        · cases h3
      · exact hpure h1
  | ready _ => cases h
  | waits _ => cases h
  | makeChan _ _ => cases h
  | mapEntry _ _ _ => cases h
  | entryStore _ _ _ _ => cases h
  | range _ _ => cases h
  | next _ _ => cases h
  | entry _ => cases h
  | typeAssert _ _ _ _ => cases h
  | go _ => cases h
  | defer _ => cases h
  | panic _ => cases h
  | send _ _ => cases h
  | recv _ _ _ => cases h
  | select _ _ => cases h
end
end
end Go.Proofs.YtgdlpgakhhebeaaGreatDoor.Ev
end
section
set_option linter.unusedVariables false
namespace Go.Proofs.YtgdlpgakhhebeaaGreatDoor.Ev
open Go
noncomputable section

/-- No fence, in a round or in none. -/
def fw (r : Option Nat) : Fence := { Fence.wide with round := r }
theorem callsIn_fw {r : Option Nat} {n : Nat} {P : Program} {f : FuncId} {args : Array Value} {w : World} {R : Ending → World → Prop} (h : Calls P f args w R) : CallsIn (fw r) n P f args w R := (callsIn_wide (n := n)).2 h
theorem roundIn_fw {r : Option Nat} {n : Nat} {P : Program} {l : Nat} {f : FuncId} {t : Array Value} {asg body : Code} {w : World} {R : Ending → World → Prop} (h : RoundIn Fence.wide n P l f t asg body w R) : RoundIn (fw r) n P l f t asg body w R := h
/-- An activation. -/
structure ActR (sg : Nat → Pl) (N : Nat) (S : T Value) (n : Nat) (D : List Nat) (a : Act) : Prop where
  slots : SR sg N S n a.tmps
  small : n < 1000000000000
  marks : a.defers = D.map (fun d => { target := .collected (sg d).1, args := #[] })
  low : ∀ d ∈ D, d < N
theorem ActR.ext {sg sg' : Nat → Pl} {N N' : Nat} {S : T Value} {n : Nat} {D : List Nat} {a : Act} (h : ActR sg N S n D a) (he : Ext N sg sg') (hN : N ≤ N') : ActR sg' N' S n D a :=
  ⟨h.slots.ext he hN, h.small, by rw [h.marks]; exact List.map_congr_left (fun d hd => by rw [he d (h.low d hd)]), fun d hd => Nat.lt_of_lt_of_le (h.low d hd) hN⟩
theorem undef_VR {sg : Nat → Pl} {N : Nat} : VR sg N undef undef := .tuple _ _ rfl (fun i v v' a => by simp at a)
theorem getS_VR {sg : Nat → Pl} {N : Nat} {S : T Value} {n : Nat} {a : Array Value} (h : SR sg N S n a) (t : Nat) : VR sg N (getS S t) (a.getD t undef) := by
  rw [Array.getD_eq_getD_getElem?]
  cases ht : a[t]? with
  | some v' => exact h.2.2 t v' ht
  | none =>
    have : n ≤ t := by
      have := Array.getElem?_eq_none_iff.1 ht
      rw [← h.1]; exact this
    unfold getS
    rw [h.2.1 t this]
    exact undef_VR
theorem SR.ops {sg : Nat → Pl} {N : Nat} {S : T Value} {n : Nat} {a : Act} (h : SR sg N S n a.tmps) (xs : List Operand) : Ops sg N S a.eval xs := fun x _ v hv => by
  cases x with
  | tmp t => cases hv; exact getS_VR h t
  | const u => obtain ⟨rfl, hb⟩ := constV_eq hv; exact VR.of_bare 9 _ hb
  | global g => cases hv
  | func f => cases hv; exact .func _ _ _ _ _ (fun l e => by cases e) rfl rfl (fun i v v' a => by simp at a) (fun i v v' a => by simp at a)
theorem SR.set {sg : Nat → Pl} {N : Nat} {S : T Value} {n : Nat} {a : Array Value} (h : SR sg N S n a) (hn : n < 1000000000000) {v v' : Value} (hv : VR sg N v v') (d : Nat) : SR sg N (bif Nat.blt d n then S.set d v else S) n (a.setIfInBounds d v') := by
  cases hd : Nat.blt d n with
  | false =>
    rw [cond_false]
    have : ¬ d < n := fun e => by rw [← Nat.blt_eq] at e; rw [hd] at e; cases e
    have e : a.setIfInBounds d v' = a := Array.setIfInBounds_eq_of_size_le (by rw [h.1]; omega)
    rw [e]; exact h
  | true =>
    have hlt : d < n := by simpa [Nat.blt_eq] using hd
    rw [cond_true]
    refine ⟨by simp [h.1], fun t ht => ?_, fun t u hu => ?_⟩
    · rw [T.get_set _ _ _ _ (by omega), if_neg (by omega)]; exact h.2.1 t ht
    · rw [T.get_set _ _ _ _ (by omega)]
      rw [Array.getElem?_setIfInBounds] at hu
      by_cases e : d = t
      · subst e
        rw [if_pos rfl] at hu
        have hs : d < a.size := by rw [h.1]; exact hlt
        simp [hs] at hu
        subst hu
        rw [if_pos rfl]
        exact hv
      · rw [if_neg e] at hu
        rw [if_neg (fun q => e q.symm)]
        exact h.2.2 t u hu
theorem SR.put {sg : Nat → Pl} {N : Nat} {S : T Value} {n : Nat} {a : Act} (h : SR sg N S n a.tmps) (hn : n < 1000000000000) {v v' : Value} (hv : VR sg N v v') (d : Option Tmp) : SR sg N (putS S n d v) n (a.put d v').tmps := by
  cases d with
  | none => exact h
  | some d =>
    show SR sg N (T.bi (Nat.blt d n) (S.set d v) S) n (a.tmps.setIfInBounds d v')
    rw [T.bi_eq]
    exact h.set hn hv d
theorem Act.put_defers' (a : Act) (d : Option Tmp) (v : Value) : (a.put d v).defers = a.defers := by cases d <;> rfl
theorem ActR.put {sg : Nat → Pl} {N : Nat} {S : T Value} {n : Nat} {D : List Nat} {a : Act} (h : ActR sg N S n D a) {v v' : Value} (hv : VR sg N v v') (d : Option Tmp) : ActR sg N (putS S n d v) n D (a.put d v') :=
  ⟨h.slots.put h.small hv d, h.small, by rw [Act.put_defers']; exact h.marks, h.low⟩
theorem isB_eq {sg : Nat → Pl} {N : Nat} {v v' : Value} (h : VR sg N v v') (w : Bool) : isB w v = (match (some v' : Option Value) with | some (.bool b) => (some b == some w) | _ => false) := by
  cases h <;> first | rfl | (rename_i b; cases b <;> cases w <;> rfl)
theorem wanted_ok {sg : Nat → Pl} {N : Nat} {S : T Value} {n : Nat} {a : Array Value} (h : SR sg N S n a) (ops : Array Oper) (o : Oper) : Region.wanted o (yielded ops a) = wantedA ops.toList o S := by
  unfold Region.wanted wantedA wantedG
  cases hg : o.guard with
  | none => rfl
  | some p =>
    obtain ⟨j, w⟩ := p
    simp only [yielded, dstAt, Option.ob_eq, Array.getElem?_toList]
    cases hd : (ops[j]?).bind (fun o => o.dst) with
    | none => rfl
    | some d =>
      have hv := getS_VR h d
      rw [Array.getD_eq_getD_getElem?] at hv
      simp only [Option.bind_some]
      cases ha : a[d]? with
      | none =>
        rw [ha] at hv
        simp only [Option.getD_none] at hv
        rw [isB_eq hv]
        rfl
      | some u =>
        rw [ha] at hv
        simp only [Option.getD_some] at hv
        rw [isB_eq hv]
        cases u <;> rfl

/-- What is asked of a call, of a round. -/
def CallOk (P : Program) (call : FuncId → List Value → ASt → VRes) : Prop := ∀ f args H v H', call f args H = some (v, H') → (∀ args' W, (callFunc f args').run P W = .ok (.enter f args') W) ∧
  ∀ sg W (args' : Array Value), R sg H W → LR sg H.next args args'.toList → Calls P f args' W fun e W' => ∃ v' sg', e = .returned v' ∧ R sg' H' W' ∧ Fr sg H W sg' H' W' ∧ VR sg' H'.next v v'
def RoundOk (P : Program) (round : Nat → List Value → ASt → VRes) : Prop := ∀ l args H v H', round l args H = some (v, H') → ∀ sg W (args' : Array Value), R sg H W → l < H.next → LR sg H.next args args'.toList →
  ∃ fn tmps asg body, (Instr.yield (sg l).1 args').run P W = .ok (.round (sg l).1 fn tmps asg body) W ∧ ∀ m, RoundIn Fence.wide m P (sg l).1 fn tmps asg body W fun e W' => ∃ v' sg', e = .returned v' ∧ R sg' H' W' ∧ Fr sg H W sg' H' W' ∧ VR sg' H'.next v v'
section
variable {P : Program} {rec : Rec}
theorem aexec_noDefer {S : T Value} {H H' : ASt} {o : Oper} {r : ARes} (h : aexec P S H o = some (r, H')) : ∀ c, o.op ≠ .defer c := fun c e => by
  unfold aexec at h
  rw [e] at h
  cases h
theorem xop_noDefer {S : T Value} {H H' : ASt} {o : Oper} {v : Value} (h : xop P rec S H o = some (v, H')) : ∀ c, o.op ≠ .defer c := by
  unfold xop at h
  simp only [Option.ob_eq, Option.bind_eq_some_iff] at h
  obtain ⟨⟨r, H1⟩, h1, h2⟩ := h
  exact aexec_noDefer h1
theorem xop_ok (hc : CallOk P rec.call) (hr : RoundOk P rec.round) {sg : Nat → Pl} {H H' : ASt} {W : World} (hR : R sg H W) {S : T Value} {a : Act} {o : Oper} {v : Value} (ho : Ops sg H.next S a.eval o.op.operands.toList)
    (h : xop P rec S H o = some (v, H')) {r : Option Nat} {n : Nat} {K : Act → World → Prop} {Q : Exit → Act → World → Prop}
    (hK : ∀ v' sg' W', R sg' H' W' → Fr sg H W sg' H' W' → VR sg' H'.next v v' → K (a.put o.dst v') W') : o.wpIn (fw r) n P a W K Q := by
  have hnd := xop_noDefer h
  unfold xop at h
  simp only [Option.ob_eq, Option.bind_eq_some_iff] at h
  obtain ⟨⟨x, H1⟩, h1, h2⟩ := h
  have hd := aexec_ok (W := W) hR ho h1
  refine ⟨fun f _ => trivial, ?_⟩
  rw [Oper.semAt_plain (fw r) _ _ hnd]
  cases x with
  | val u =>
    cases h2
    obtain ⟨v', sg', W', q1, q2, q3, q4⟩ := hd
    rw [q1]
    exact hK v' sg' W' q2 q3 q4
  | skip =>
    cases h2
    obtain ⟨sg', W', q1, q2, q3⟩ := hd
    rw [q1]
    exact hK undef sg' W' q2 q3 undef_VR
  | enter f args =>
    obtain ⟨rfl, hb, args', q1, q2⟩ := hd
    have h3 : rec.call f args H1 = some (v, H') := h2
    obtain ⟨c1, c2⟩ := hc f args H1 v H' h3
    rw [q1, c1]
    refine ⟨fun h => (by cases h), callsIn_fw ((c2 sg W args' hR q2).mono ?_)⟩
    rintro e W' ⟨v', sg', rfl, r1, r2, r3⟩
    exact hK v' sg' W' r1 r2 r3
  | round l args =>
    obtain ⟨rfl, hl, args', q1, q2⟩ := hd
    have h3 : rec.round l args H1 = some (v, H') := h2
    obtain ⟨fn, tmps, asg, body, c1, c2⟩ := hr l args H1 v H' h3 sg W args' hR hl q2
    rw [q1, c1]
    refine ⟨fun h => (by cases h), roundIn_fw ((c2 (n - 1)).mono ?_)⟩
    rintro e W' ⟨v', sg', rfl, r1, r2, r3⟩
    exact hK v' sg' W' r1 r2 r3
/-- A region in the order of the text. -/
theorem runOps_ok (hc : CallOk P rec.call) (hr : RoundOk P rec.round) {ops : Array Oper} {r : Option Nat} {m n : Nat} {D : List Nat} {Q : Exit → Act → World → Prop} :
    ∀ (rest : List Oper) (k : Nat) (S S' : T Value) (H H' : ASt) (sg : Nat → Pl) (W : World) (a : Act), rest = ops.toList.drop k → runOps P rec ops.toList n rest S H = some (S', H') → R sg H W → ActR sg H.next S n D a →
      (∀ a' W' sg', R sg' H' W' → Fr sg H W sg' H' W' → ActR sg' H'.next S' n D a' → Q .normal a' W') → wpOpsIn (fw r) m P ops Q (List.range' k rest.length) a W
  | [], k, S, S', H, H', sg, W, a, hrest, h, hR, ha, hQ => by
    cases h
    exact hQ a W sg hR (Fr.refl _ _ _) ha
  | o :: rest, k, S, S', H, H', sg, W, a, hrest, h, hR, ha, hQ => by
    have hko : ops[k]? = some o := by
      have : (ops.toList.drop k)[0]? = some o := by rw [← hrest]; rfl
      simpa using this
    have hrest' : rest = ops.toList.drop (k + 1) := by
      rw [← List.drop_drop, ← hrest]; rfl
    simp only [List.length_cons, List.range'_succ]
    rw [wpOpsIn_cons]
    unfold wpOpIn
    rw [hko]
    simp only
    rw [wanted_ok ha.slots]
    unfold runOps at h
    rw [T.bi_eq] at h
    cases hw : wantedA ops.toList o S with
    | false =>
      rw [hw, cond_false] at h
      simp only [Bool.false_eq_true, if_false]
      exact ⟨fun f _ => trivial, runOps_ok hc hr rest (k + 1) _ S' H H' sg W _ hrest' h hR (ha.put undef_VR o.dst) hQ⟩
    | true =>
      rw [hw, cond_true] at h
      simp only [if_true]
      simp only [Option.ob_eq, Option.bind_eq_some_iff] at h
      obtain ⟨⟨v, H1⟩, h1, h2⟩ := h
      refine xop_ok hc hr hR (ha.slots.ops _) h1 ?_
      intro v' sg' W' r1 r2 r3
      refine runOps_ok hc hr rest (k + 1) _ S' H1 H' sg' W' _ hrest' h2 r1 ((ha.ext r2.ext r2.next).put r3 o.dst) ?_
      intro a' W2 sg2 r4 r5 r6
      exact hQ a' W2 sg2 r4 (r2.trans r5) r6
theorem region_ok (hc : CallOk P rec.call) (hr : RoundOk P rec.round) {ops : Array Oper} {id : Nat} {r : Option Nat} {m n : Nat} {D : List Nat} {Q : Exit → Act → World → Prop} {S S' : T Value} {H H' : ASt} {sg : Nat → Pl} {W : World} {a : Act}
    (h : runOps P rec ops.toList n ops.toList S H = some (S', H')) (hR : R sg H W) (ha : ActR sg H.next S n D a) (hQ : ∀ a' W' sg', R sg' H' W' → Fr sg H W sg' H' W' → ActR sg' H'.next S' n D a' → Q .normal a' W') :
    (Code.region id ops false).wpIn (fw r) m P Q a W := by
  refine wpIn_region ?_
  have := runOps_ok hc hr (r := r) (m := m) (Q := Q) ops.toList 0 S S' H H' sg W a rfl h hR ha hQ
  rw [List.range_eq_range']
  simpa using this
end
end
end Go.Proofs.YtgdlpgakhhebeaaGreatDoor.Ev
end
