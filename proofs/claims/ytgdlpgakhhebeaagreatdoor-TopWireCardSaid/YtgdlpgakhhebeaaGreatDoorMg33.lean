/- Part 33 of the proof of TopWire: Evq. -/
import Derived.Test.YtgdlpgakhhebeaaGreatDoorMg32
set_option linter.unusedVariables false
namespace Go.Proofs.YtgdlpgakhhebeaaGreatDoor.Ev
open Go
noncomputable section

theorem maskOf_spec (prev : List Nat) : ∀ (es : List Edge) (k : Nat), maskOf prev es = some k →
    (∀ x, k.testBit x = true → ∃ e ∈ es, bindsB e = true ∧ (x = e.on ∨ ∃ m, prev.reverse[e.on]? = some m ∧ m.testBit x = true)) ∧ (∀ e ∈ es, bindsB e = true → e.on < prev.length ∧ k.testBit e.on = true)
  | [], k, h => by
    cases h
    exact ⟨fun x hx => by simp at hx, fun e he => by cases he⟩
  | e :: es, k, h => by
    unfold maskOf at h
    cases hb : bindsB e with
    | false =>
      rw [hb, cond_false] at h
      obtain ⟨h1, h2⟩ := maskOf_spec prev es k h
      refine ⟨fun x hx => ?_, fun e' he' hb' => ?_⟩
      · obtain ⟨e', he', q⟩ := h1 x hx
        exact ⟨e', List.mem_cons_of_mem _ he', q⟩
      · rcases List.mem_cons.1 he' with rfl | he'
        · rw [hb] at hb'; cases hb'
        · exact h2 e' he' hb'
    | true =>
      rw [hb, cond_true] at h
      split at h
      case h_2 => cases h
      rename_i m hm
      simp only [Option.ob_eq, Option.bind_eq_some_iff] at h
      obtain ⟨k', h3, h4⟩ := h
      cases h4
      obtain ⟨h1, h2⟩ := maskOf_spec prev es k' h3
      refine ⟨fun x hx => ?_, fun e' he' hb' => ?_⟩
      · rw [Nat.testBit_or, Nat.testBit_or, Bool.or_eq_true, Bool.or_eq_true] at hx
        rcases hx with (hx | hx) | hx
        · refine ⟨e, List.mem_cons_self .., hb, .inl ?_⟩
          rw [Nat.testBit_two_pow] at hx
          exact (of_decide_eq_true hx).symm
        · exact ⟨e, List.mem_cons_self .., hb, .inr ⟨m, hm, hx⟩⟩
        · obtain ⟨e', he', q⟩ := h1 x hx
          exact ⟨e', List.mem_cons_of_mem _ he', q⟩
      · rcases List.mem_cons.1 he' with rfl | he'
        · have := (List.getElem?_eq_some_iff.1 hm).1
          refine ⟨by simpa using this, ?_⟩
          rw [Nat.testBit_or, Nat.testBit_or, Nat.testBit_two_pow_self]
          simp
        · obtain ⟨q1, q2⟩ := h2 e' he' hb'
          refine ⟨q1, ?_⟩
          rw [Nat.testBit_or, q2]
          simp
/-- What a mask says. -/
def MaskR (M : List Nat) (o : Oper) (k b : Nat) : Prop :=
  (∀ x, k.testBit x = true → ∃ e ∈ o.after.toList, bindsB e = true ∧ (x = e.on ∨ ∃ m, M[e.on]? = some m ∧ m.testBit x = true)) ∧ (∀ e ∈ o.after.toList, bindsB e = true → e.on < b ∧ k.testBit e.on = true)
theorem masks_spec : ∀ (rest : List Oper) (acc ms : List Nat), masks rest acc = some ms → ∃ L, ms.reverse = acc.reverse ++ L ∧ L.length = rest.length ∧ ∀ i o, rest[i]? = some o → ∃ k, L[i]? = some k ∧ MaskR (acc.reverse ++ L) o k (acc.length + i)
  | [], acc, ms, h => by cases h; exact ⟨[], by simp, rfl, fun i o hi => by cases hi⟩
  | o :: rest, acc, ms, h => by
    unfold masks at h
    simp only [Option.ob_eq, Option.bind_eq_some_iff] at h
    obtain ⟨m, h1, h2⟩ := h
    obtain ⟨L, h3, h4, h5⟩ := masks_spec rest (m :: acc) ms h2
    have e : (m :: acc).reverse ++ L = acc.reverse ++ (m :: L) := by simp
    rw [e] at h3 h5
    refine ⟨m :: L, h3, by simp [h4], fun i o' hi => ?_⟩
    cases i with
    | zero =>
      cases hi
      refine ⟨m, rfl, ?_⟩
      obtain ⟨q1, q2⟩ := maskOf_spec acc _ _ h1
      refine ⟨fun x hx => ?_, fun e he hb => by simpa using q2 e he hb⟩
      obtain ⟨e', he', hb', q⟩ := q1 x hx
      refine ⟨e', he', hb', ?_⟩
      rcases q with q | ⟨m', hm', hx'⟩
      · exact .inl q
      · refine .inr ⟨m', ?_, hx'⟩
        rw [List.getElem?_append_left (by simpa using (q2 e' he' hb').1)]
        exact hm'
    | succ i =>
      obtain ⟨k, q1, q2⟩ := h5 i o' hi
      refine ⟨k, q1, q2.1, fun e he hb => ?_⟩
      obtain ⟨q3, q4⟩ := q2.2 e he hb
      simp only [List.length_cons] at q3
      exact ⟨by omega, q4⟩
/-- The numbers of the effects ahead. -/
def IdxOk : List Info → Nat → Prop
  | [], _ => True
  | i :: r, c => i.idx = c ∧ IdxOk r (bif i.eff then c + 1 else c)
theorem infos_idx (P : Program) : ∀ (ops : List Oper) (ms : List Nat) (c : Nat), IdxOk (infos P ops ms c) c
  | [], ms, c => by cases ms <;> exact trivial
  | o :: ops, [], c => trivial
  | o :: ops, m :: ms, c => ⟨rfl, infos_idx P ops ms _⟩
theorem infos_get (P : Program) : ∀ (ops : List Oper) (ms : List Nat) (c i : Nat) (o : Oper) (k : Nat), ops[i]? = some o → ms[i]? = some k → ∃ inf, (infos P ops ms c)[i]? = some inf ∧ inf.mask = k ∧ inf.eff = isEff P o.op ∧ inf.al = (isAlloc o.op && o.guard.isNone)
  | [], ms, c, i, o, k, h1, h2 => by cases h1
  | o' :: ops, [], c, i, o, k, h1, h2 => by cases h2
  | o' :: ops, m :: ms, c, 0, o, k, h1, h2 => by cases h1; cases h2; exact ⟨_, rfl, rfl, rfl, rfl⟩
  | o' :: ops, m :: ms, c, i + 1, o, k, h1, h2 => infos_get P ops ms _ i o k h1 h2
theorem infos_length (P : Program) : ∀ (ops : List Oper) (ms : List Nat) (c : Nat), ms.length = ops.length → (infos P ops ms c).length = ops.length
  | [], ms, c, h => by cases ms <;> first | rfl | simp at h
  | o :: ops, [], c, h => by simp at h
  | o :: ops, m :: ms, c, h => by simp only [infos, List.length_cons]; rw [infos_length P ops ms _ (by simpa using h)]
theorem eff_get : ∀ (is : List Info) (c b i : Nat) (inf : Info), IdxOk is c → is[i]? = some inf → c ≤ inf.idx ∧ (inf.eff = true → (effMasks is b)[inf.idx - c]? = some (b + i, inf.mask))
  | [], c, b, i, inf, h, hi => by cases hi
  | x :: is, c, b, 0, inf, h, hi => by
    cases hi
    refine ⟨by rw [h.1]; exact Nat.le_refl _, fun he => ?_⟩
    unfold effMasks
    rw [he, cond_true, h.1, Nat.sub_self]
    rfl
  | x :: is, c, b, i + 1, inf, h, hi => by
    obtain ⟨h1, h2⟩ := eff_get is _ (b + 1) i inf h.2 hi
    unfold effMasks
    cases hx : x.eff with
    | false =>
      rw [hx, cond_false] at h1 h2
      rw [cond_false]
      exact ⟨h1, fun he => by rw [h2 he]; congr 2; omega⟩
    | true =>
      rw [hx, cond_true] at h1 h2
      rw [cond_true]
      refine ⟨by omega, fun he => ?_⟩
      rw [show inf.idx - c = (inf.idx - (c + 1)) + 1 by omega, List.getElem?_cons_succ, h2 he]
      congr 2; omega
theorem eff_conv : ∀ (is : List Info) (c b q : Nat) (p : Nat × Nat), IdxOk is c → (effMasks is b)[q]? = some p → ∃ i inf, is[i]? = some inf ∧ inf.eff = true ∧ p = (b + i, inf.mask) ∧ inf.idx = c + q
  | [], c, b, q, p, h, hq => by cases hq
  | x :: is, c, b, q, p, h, hq => by
    unfold effMasks at hq
    cases hx : x.eff with
    | false =>
      rw [hx, cond_false] at hq
      have h2 := h.2
      rw [hx, cond_false] at h2
      obtain ⟨i, inf, q1, q2, q3, q4⟩ := eff_conv is c (b + 1) q p h2 hq
      exact ⟨i + 1, inf, q1, q2, by rw [q3]; congr 1; omega, q4⟩
    | true =>
      rw [hx, cond_true] at hq
      have h2 := h.2
      rw [hx, cond_true] at h2
      cases q with
      | zero => cases hq; exact ⟨0, x, rfl, hx, rfl, h.1⟩
      | succ q =>
        obtain ⟨i, inf, q1, q2, q3, q4⟩ := eff_conv is (c + 1) (b + 1) q p h2 hq
        exact ⟨i + 1, inf, q1, q2, by rw [q3]; congr 1; omega, by omega⟩
section
variable {P : Program} {rec : Rec}
theorem ret_H {H H' : ASt} {r : Option Value} {v : Value} (h : ret H r = some (v, H')) : H' = H := (ret_eq h).2
theorem apure_H {S : T Value} {H H' : ASt} {o : Oper} {v : Value} (h : apure P S H o = some (v, H')) : H' = H := by
  unfold apure at h
  simp only [Option.ob_eq, Option.bind_eq_some_iff] at h
  obtain ⟨vs, h1, h2⟩ := h
  cases hb : vs.all (bare 9) with
  | false => rw [hb] at h2; cases h2
  | true =>
    rw [hb, cond_true] at h2
    unfold bareRes at h2
    split at h2
    · rename_i u hu
      cases hc : bare 9 u with
      | false => rw [hc] at h2; cases h2
      | true => rw [hc, cond_true] at h2; cases h2; rfl
    · cases h2
set_option maxHeartbeats 1000000 in
/-- What only reads leaves the world. -/
theorem reads_H {S : T Value} {H H' : ASt} {o : Oper} {r : ARes} (he : isEff P o.op = false) (h : aexec P S H o = some (r, H')) : H' = H ∧ ∃ v, r = .val v := by
  rcases o with ⟨d, op, ty, ps, af, g⟩
  have V : ∀ {x : VRes}, val x = some (r, H') → (∀ v, x = some (v, H') → H' = H) → H' = H ∧ ∃ v, r = .val v := fun hx hv => by
    obtain ⟨v, h1, h2⟩ := val_eq hx
    exact ⟨hv v h1, v, h2⟩
  cases op with
  | move x => exact V (show val (ret H (opval S x)) = _ from h) (fun v => ret_H)
  | assign x => exact V (show val (ret H (opval S x)) = _ from h) (fun v => ret_H)
  | pick c x y =>
    refine V (show val (vPick c x y P S H _) = _ from h) (fun v h1 => ?_)
    unfold vPick at h1
    simp only [Option.ob_eq, Option.bind_eq_some_iff] at h1
    obtain ⟨u, h2, h3⟩ := h1
    unfold pickV at h3
    split at h3
    · exact ret_H h3
    · cases h3
  | load t x =>
    refine V (show val (vLoad t x P S H _) = _ from h) (fun v h1 => ?_)
    unfold vLoad at h1
    simp only [Option.ob_eq, Option.bind_eq_some_iff] at h1
    obtain ⟨u, h2, h3⟩ := h1
    exact ret_H h3
  | nilCheck x =>
    refine V (show val (vNilCheck x P S H _) = _ from h) (fun v h1 => ?_)
    unfold vNilCheck at h1
    simp only [Option.ob_eq, Option.bind_eq_some_iff] at h1
    obtain ⟨u, h2, h3⟩ := h1
    exact ret_H h3
  | binOp op t x y u =>
    refine V (show val (vBin op t x y u P S H _) = _ from h) (fun v h1 => ?_)
    unfold vBin at h1
    simp only [Option.ob_eq, Option.bind_eq_some_iff] at h1
    obtain ⟨a, h2, b, h3, h4⟩ := h1
    unfold binV at h4
    split at h4
    · exact ret_H h4
    · exact ret_H h4
    · exact apure_H h4
    · rename_i a b
      cases hc : isBoolD (P.underlying t) with
      | false => rw [hc] at h4; cases h4
      | true => rw [hc, cond_true] at h4; exact ret_H h4
    · rcases orPure_eq h4 with ⟨_, h5⟩ | h5
      · exact h5
      · exact apure_H h5
  | unOp op t x =>
    refine V (show val (vUn op t x P S H _) = _ from h) (fun v h1 => ?_)
    unfold vUn at h1
    simp only [Option.ob_eq, Option.bind_eq_some_iff] at h1
    obtain ⟨u, h2, h3⟩ := h1
    exact ret_H h3
  | convert s t x =>
    refine V (show val (vConvert s t x P S H _) = _ from h) (fun v h1 => ?_)
    unfold vConvert at h1
    simp only [Option.ob_eq, Option.bind_eq_some_iff] at h1
    obtain ⟨u, h2, h3⟩ := h1
    unfold aconvertD at h3
    split at h3
    · split at h3
      · cases h3; rfl
      · cases h3
    · rename_i e hs hd
      have he' : (match P.underlying t with | some (.slice _) => true | _ => false) = false := he
      rw [hd] at he'
      cases he'
    · rename_i e hs hd
      unfold convBS at h3
      split at h3
      · cases hc : isU8 P e with
        | false => rw [hc] at h3; cases h3
        | true => rw [hc, cond_true] at h3; cases h3; rfl
      · cases hc : isU8 P e with
        | false => rw [hc] at h3; cases h3
        | true =>
          rw [hc, cond_true] at h3
          simp only [Option.ob_eq, Option.bind_eq_some_iff] at h3
          obtain ⟨l, _, bs, _, h4⟩ := h3
          cases h4; rfl
      · cases h3
    · split at h3
      · cases h3; rfl
      · cases h3
    · exact apure_H h3
  | sliceToArrayPointer t x =>
    refine V (show val (vToArray t x P S H _) = _ from h) (fun v h1 => ?_)
    unfold vToArray at h1
    simp only [Option.ob_eq, Option.bind_eq_some_iff] at h1
    obtain ⟨u, h2, p, h3, h4⟩ := h1
    exact ret_H h4
  | makeInterface t x =>
    refine V (show val (vMakeInterface t x P S H _) = _ from h) (fun v h1 => ?_)
    unfold vMakeInterface at h1
    simp only [Option.ob_eq, Option.bind_eq_some_iff] at h1
    obtain ⟨u, h2, h3⟩ := h1
    exact ret_H h3
  | makeFunc fn first cap =>
    refine V (show val (vMakeFunc fn first cap P S H _) = _ from h) (fun v h1 => ?_)
    unfold vMakeFunc at h1
    simp only [Option.ob_eq, Option.bind_eq_some_iff] at h1
    obtain ⟨l, h2, k, h3, h4⟩ := h1
    exact ret_H h4
  | build t parts =>
    refine V (show val (vBuild t parts P S H _) = _ from h) (fun v h1 => ?_)
    unfold vBuild at h1
    simp only [Option.ob_eq, Option.bind_eq_some_iff] at h1
    obtain ⟨l, h2, h3⟩ := h1
    exact ret_H h3
  | slice t x lo hi mx =>
    refine V (show val (vSlice t x lo hi mx P S H _) = _ from h) (fun v h1 => ?_)
    unfold vSlice at h1
    simp only [Option.ob_eq, Option.bind_eq_some_iff] at h1
    obtain ⟨u, h2, lo', h3, hi', h4, h5⟩ := h1
    unfold sliceV at h5
    split at h5
    · cases hc : isStrD (P.underlying t) with
      | false => rw [hc] at h5; cases h5
      | true => rw [hc, cond_true] at h5; exact ret_H h5
    · exact ret_H h5
    · simp only [Option.ob_eq, Option.bind_eq_some_iff] at h5
      obtain ⟨w, h6, h7⟩ := h5
      exact ret_H h7
  | fieldAddr t x f =>
    refine V (show val (vFieldAddr t x f P S H _) = _ from h) (fun v h1 => ?_)
    unfold vFieldAddr at h1
    simp only [Option.ob_eq, Option.bind_eq_some_iff] at h1
    obtain ⟨u, h2, h3⟩ := h1
    exact ret_H h3
  | field t x f =>
    refine V (show val (vField t x f P S H _) = _ from h) (fun v h1 => ?_)
    unfold vField at h1
    simp only [Option.ob_eq, Option.bind_eq_some_iff] at h1
    obtain ⟨u, h2, h3⟩ := h1
    exact ret_H h3
  | indexAddr t x i =>
    refine V (show val (vIndexAddr t x i P S H _) = _ from h) (fun v h1 => ?_)
    unfold vIndexAddr at h1
    simp only [Option.ob_eq, Option.bind_eq_some_iff] at h1
    obtain ⟨u, h2, w, h3, h4⟩ := h1
    exact ret_H h4
  | index t x i =>
    refine V (show val (vIndex t x i P S H _) = _ from h) (fun v h1 => ?_)
    unfold vIndex at h1
    simp only [Option.ob_eq, Option.bind_eq_some_iff] at h1
    obtain ⟨u, h2, w, h3, h4⟩ := h1
    exact ret_H h4
  | lookup t x i ok =>
    refine V (show val (vLookup t x i ok P S H _) = _ from h) (fun v h1 => ?_)
    unfold vLookup at h1
    simp only [Option.ob_eq, Option.bind_eq_some_iff] at h1
    obtain ⟨u, h2, w, h3, h4⟩ := h1
    exact ret_H h4
  | extract x j =>
    refine V (show val (vExtract x j P S H _) = _ from h) (fun v h1 => ?_)
    unfold vExtract at h1
    simp only [Option.ob_eq, Option.bind_eq_some_iff] at h1
    obtain ⟨u, h2, h3⟩ := h1
    exact ret_H h3
  | call c =>
    rcases c with ⟨callee, args, ts⟩
    cases callee with
    | value f => cases he
    | invoke f m => cases h
    | builtin b =>
      refine V (show val (vBuiltin b ⟨.builtin b, args, ts⟩ P S H _) = _ from h) (fun v h1 => ?_)
      cases b <;> first
        | (cases he; done)
        | (simp only [vBuiltin] at h1; exact apure_H h1)
        | (simp only [vBuiltin, Option.ob_eq, Option.bind_eq_some_iff] at h1
           obtain ⟨l, h2, h3⟩ := h1
           unfold bLen at h3
           split at h3
           · exact ret_H h3
           · cases h3)
  | alloc _ => cases he
  | box _ _ => cases he
  | buildSlice _ _ _ => cases he
  | insert _ _ _ _ => cases he
  | store _ _ _ => cases he
  | makeMap _ _ => cases he
  | makeSlice _ _ _ => cases he
  | mapUpdate _ _ _ _ => cases he
  | ready _ => cases h
  | waits _ => cases h
  | makeChan _ _ => cases h
  | mapEntry _ _ _ => cases h
  | entryStore _ _ _ _ => cases h
  | range _ _ => cases h
  | next _ _ => cases h
  | entry _ => cases h
  | typeAssert _ _ _ _ => cases h
  | go _ => cases h
  | defer _ => cases h
  | panic _ => cases h
  | send _ _ => cases h
  | recv _ _ _ => cases h
  | select _ _ => cases h
theorem xop_reads {S : T Value} {H H' : ASt} {o : Oper} {v : Value} (he : isEff P o.op = false) (h : xop P rec S H o = some (v, H')) : H' = H := by
  unfold xop at h
  simp only [Option.ob_eq, Option.bind_eq_some_iff] at h
  obtain ⟨⟨r, H1⟩, h1, h2⟩ := h
  obtain ⟨rfl, u, rfl⟩ := reads_H he h1
  cases h2
  rfl
/-- One step of the plan. -/
def stepA (P : Program) (rec : Rec) (ops : List Oper) (o : Oper) (S : T Value) (H : ASt) : VRes := bif wantedA ops o S then xop P rec S H o else some (undef, H)
theorem eff_len : ∀ (is : List Info) (a b : Nat), (effMasks is a).length = (effMasks is b).length
  | [], a, b => rfl
  | x :: is, a, b => by
    have h0 := eff_len is (a + 1) (b + 1)
    simp only [effMasks]
    cases x.eff with
    | false => exact h0
    | true => simpa using h0
theorem dPass_spec {ops : List Oper} {n : Nat} : ∀ (rest : List Oper) (is : List Info) (c : Nat) (S S' : T Value) (H : ASt) (rs : List (T Value × Value)) (Hs : List ASt), dPass P rec ops n rest is S H = some (rs, Hs, S') → rest.length = is.length → IdxOk is c →
    (∀ (i : Nat) (o : Oper) (inf : Info), rest[i]? = some o → is[i]? = some inf → inf.eff = isEff P o.op) →
    rs.length = rest.length ∧ Hs[0]? = some H ∧ (∀ (i : Nat) (o : Oper) (inf : Info), rest[i]? = some o → is[i]? = some inf → ∃ Si v H0 H1, rs[i]? = some (Si, v) ∧ c ≤ inf.idx ∧ Hs[inf.idx - c]? = some H0 ∧ stepA P rec ops o Si H0 = some (v, H1) ∧ Hs[inf.idx - c + (bif inf.eff then 1 else 0)]? = some H1 ∧
      (∀ Sj vj, rs[i + 1]? = some (Sj, vj) → Sj = putS Si n o.dst v) ∧ (i + 1 = rest.length → S' = putS Si n o.dst v)) ∧ (∀ Si v, rs[0]? = some (Si, v) → Si = S) ∧ (rest = [] → S' = S) ∧ Hs.length = (effMasks is 0).length + 1
  | [], is, c, S, S', H, rs, Hs, h, hl, hi, he => by
    cases is with
    | nil => cases h; exact ⟨rfl, rfl, fun i o inf h => (by cases h), fun _ _ h => (by cases h), fun _ => rfl, rfl⟩
    | cons x is => simp at hl
  | o :: rest, [], c, S, S', H, rs, Hs, h, hl, hi, he => by simp at hl
  | o :: rest, x :: is, c, S, S', H, rs, Hs, h, hl, hi, he => by
    unfold dPass at h
    simp only [Option.ob_eq, Option.bind_eq_some_iff] at h
    obtain ⟨⟨v, H1⟩, h1, ⟨rs1, Hs1, S1⟩, h2, h3⟩ := h
    cases h3
    have h1 : stepA P rec ops o S H = some (v, H1) := h1
    obtain ⟨q1, q2, q3, q4, q5, q6⟩ := dPass_spec rest is _ _ _ H1 rs1 Hs1 h2 (by simpa using hl) hi.2 (fun i o' inf a b => he (i + 1) o' inf a b)
    have hx := he 0 o x rfl rfl
    have hc := hi.1
    have hlen : ∀ b, (effMasks is b).length = (effMasks is 0).length := fun b => eff_len is b 0
    cases hxe : x.eff with
    | false =>
      have hH : H1 = H := by
        unfold stepA at h1
        cases hw : wantedA ops o S with
        | false => rw [hw, cond_false] at h1; cases h1; rfl
        | true => rw [hw, cond_true] at h1; exact xop_reads (by rw [← hx]; exact hxe) h1
      subst hH
      simp only [hxe, cond_false] at q3 ⊢
      refine ⟨by simp [q1], q2, fun i o' inf a b => ?_, fun Si v' a => (by cases a; rfl), fun e => (by cases e), by unfold effMasks; rw [hxe, cond_false, hlen]; exact q6⟩
      cases i with
      | zero =>
        cases a; cases b
        refine ⟨S, v, H1, H1, rfl, by omega, by rw [hc, Nat.sub_self]; exact q2, h1, by rw [hxe, hc, Nat.sub_self]; exact q2, fun Sj vj hj => ?_, fun e => ?_⟩
        · exact q4 Sj vj (by simpa using hj)
        · exact q5 (List.eq_nil_of_length_eq_zero (by simpa using e.symm))
      | succ i =>
        obtain ⟨Si, v', H0, H2, p1, p2, p3, p4, p5, p6, p7⟩ := q3 i o' inf a b
        exact ⟨Si, v', H0, H2, p1, p2, p3, p4, p5, p6, fun e => p7 (by simpa using e)⟩
    | true =>
      simp only [hxe, cond_true] at q3 ⊢
      refine ⟨by simp [q1], rfl, fun i o' inf a b => ?_, fun Si v' a => (by cases a; rfl), fun e => (by cases e), by unfold effMasks; rw [hxe, cond_true]; simp [hlen, q6]⟩
      cases i with
      | zero =>
        cases a; cases b
        refine ⟨S, v, H, H1, rfl, by omega, by rw [hc, Nat.sub_self]; rfl, h1, by rw [hxe, hc, Nat.sub_self]; simpa using q2, fun Sj vj hj => ?_, fun e => ?_⟩
        · exact q4 Sj vj (by simpa using hj)
        · exact q5 (List.eq_nil_of_length_eq_zero (by simpa using e.symm))
      | succ i =>
        obtain ⟨Si, v', H0, H2, p1, p2, p3, p4, p5, p6, p7⟩ := q3 i o' inf a b
        refine ⟨Si, v', H0, H2, p1, by omega, ?_, p4, ?_, p6, fun e => p7 (by simpa using e)⟩
        · rw [show inf.idx - c = (inf.idx - (c + 1)) + 1 by omega, List.getElem?_cons_succ]; exact p3
        · rw [show inf.idx - c + (bif inf.eff then 1 else 0) = (inf.idx - (c + 1) + (bif inf.eff then 1 else 0)) + 1 by omega, List.getElem?_cons_succ]; exact p5
end
end
end Go.Proofs.YtgdlpgakhhebeaaGreatDoor.Ev
