/- Part 34 of the proof of TopWire: Evr, Evu. -/
import Derived.OrdersIn
import Derived.Test.YtgdlpgakhhebeaaGreatDoorMg33
section
set_option linter.unusedVariables false
namespace Go.Proofs.YtgdlpgakhhebeaaGreatDoor.Ev
open Go
noncomputable section

def isAl (o : Oper) : Bool := isAlloc o.op && o.guard.isNone
/-- The plan. -/
structure Plan where
  msk : Nat → Nat
  idx : Nat → Nat
  m : Nat
  Sk : Nat → T Value
  v : Nat → Value
  Hs : Nat → ASt
  cl : Nat → List Value
  el : Nat → Nat
  sd : Nat → Nat
  et : Nat → Nat
  mkv : Nat → Nat → Value
structure PlanOk (p : Plan) (P : Program) (rec : Rec) (ops : Array Oper) (n : Nat) (S : T Value) (H : ASt) (S' : T Value) (H' : ASt) : Prop where
  p1 : ∀ (i : Nat) (o : Oper), ops[i]? = some o → ∀ x, (p.msk i).testBit x = true → ∃ e ∈ o.after, bindsB e = true ∧ (x = e.on ∨ (p.msk e.on).testBit x = true)
  p2 : ∀ (i : Nat) (o : Oper), ops[i]? = some o → ∀ e ∈ o.after, bindsB e = true → e.on < i ∧ (p.msk i).testBit e.on = true
  dst : ∀ (i k : Nat) (oi ok : Oper) (t : Nat), ops[i]? = some oi → ops[k]? = some ok → oi.dst = some t → ok.dst = some t → i = k
  rd : ∀ (i : Nat) (o : Oper), ops[i]? = some o → ∀ t, Operand.tmp t ∈ o.op.operands.toList → ∀ (k : Nat) (q : Oper), ops[k]? = some q → q.dst = some t → k = i ∨ (∃ e ∈ o.after, bindsB e = true ∧ e.on = k) ∨ (p.msk k).testBit i = true
  gd : ∀ (i : Nat) (o : Oper) j w, ops[i]? = some o → o.guard = some (j, w) → ∃ e ∈ o.after, bindsB e = true ∧ e.on = j
  ex : ∀ q, q < p.m → ∃ (i : Nat) (o : Oper), ops[i]? = some o ∧ isEff P o.op = true ∧ p.idx i = q
  im : ∀ (i : Nat) (o : Oper), ops[i]? = some o → isEff P o.op = true → p.idx i < p.m
  inj : ∀ (i k : Nat) (oi ok : Oper), ops[i]? = some oi → ops[k]? = some ok → isEff P oi.op = true → isEff P ok.op = true → p.idx i = p.idx k → i = k
  pre : ∀ (i : Nat) (o : Oper), ops[i]? = some o → isAl o = false → ∃ lo, lo ≤ p.m ∧ (∀ (q : Nat) (o' : Oper), ops[q]? = some o' → isEff P o'.op = true → ((p.msk i).testBit q = true ↔ p.idx q < lo)) ∧ (isEff P o.op = true → lo = p.idx i)
  rdv : ∀ (i : Nat) (o : Oper), ops[i]? = some o → isEff P o.op = false → ∀ j, j ≤ p.m → (∀ (q : Nat) (o' : Oper), ops[q]? = some o' → isEff P o'.op = true → (p.msk i).testBit q = true → p.idx q < j) →
    (∀ (q : Nat) (o' : Oper), ops[q]? = some o' → isEff P o'.op = true → p.idx q < j → (p.msk q).testBit i = false) → stepA P rec ops.toList o (p.Sk i) (p.Hs j) = some (p.v i, p.Hs j)
  efv : ∀ (i : Nat) (o : Oper), ops[i]? = some o → isEff P o.op = true → stepA P rec ops.toList o (p.Sk i) (p.Hs (p.idx i)) = some (p.v i, p.Hs (p.idx i + 1))
  ale : ∀ (i : Nat) (o : Oper), ops[i]? = some o → isAl o = true → isEff P o.op = true
  alv : ∀ (i : Nat) (o : Oper), ops[i]? = some o → isAl o = true → aadd (p.Hs (p.idx i)) (p.cl i) (p.el i) (p.Hs (p.idx i)).next (p.sd i) = some (p.Hs (p.idx i + 1)) ∧ p.v i = p.mkv i (p.Hs (p.idx i)).next ∧ (∀ u ∈ p.cl i, bare 9 u = true) ∧
    (∀ (a : Act) (W : World), (execOp a.eval o).run P W = .ok (.value (p.mkv i W.heap.size)) (W.alloc (.cells (p.cl i).toArray (p.et i)))) ∧ (∀ (sg : Nat → Pl) (N b k : Nat), b < N → 0 < b → (sg b).1 = k → (sg b).2 = 0 → VR sg N (p.mkv i b) (p.mkv i k))
  sk : ∀ (i : Nat) (o : Oper), ops[i]? = some o → ∀ t, (∀ (k : Nat) (q : Oper), ops[k]? = some q → q.dst = some t → k < i → t < n → (p.Sk i).get t = some (p.v k)) ∧ ((∀ (k : Nat) (q : Oper), ops[k]? = some q → q.dst = some t → ¬ k < i) → (p.Sk i).get t = S.get t) ∧ (n ≤ t → (p.Sk i).get t = S.get t)
  fin : ∀ t, (∀ (k : Nat) (q : Oper), ops[k]? = some q → q.dst = some t → t < n → S'.get t = some (p.v k)) ∧ ((∀ (k : Nat) (q : Oper), ops[k]? = some q → q.dst ≠ some t) → S'.get t = S.get t) ∧ (n ≤ t → S'.get t = S.get t)
  h0 : p.Hs 0 = H
  hm : p.Hs p.m = H'

def lst (l : Array Bool) (i : Nat) : Prop := l.getD i false = true
theorem lst_set {l : Array Bool} {i : Nat} (hi : i < l.size) (k : Nat) : lst (l.setIfInBounds i true) k ↔ k = i ∨ lst l k := by
  unfold lst
  simp only [Array.getD_eq_getD_getElem?, Array.getElem?_setIfInBounds]
  by_cases h : i = k
  · subst h; simp [hi]
  · have h' : ¬ k = i := fun e => h e.symm
    simp [h, h']
/-- It has come, and is not known yet. -/
def Early (p : Plan) (ops : Array Oper) (l : Array Bool) (j i : Nat) (o : Oper) : Prop := ops[i]? = some o ∧ isAl o = true ∧ lst l i ∧ j ≤ p.idx i
/-- What holds between two operations. -/
structure Inv (p : Plan) (P : Program) (ops : Array Oper) (n : Nat) (S : T Value) (sg : Nat → Pl) (H : ASt) (W0 : World) (df : List Deferred) (l : Array Bool) (a : Act) (W : World) (sg' : Nat → Pl) (j : Nat) (K : Nat → Nat) : Prop where
  size : l.size = ops.size
  closed : ∀ i, lst l i → ∀ x, (p.msk i).testBit x = true → lst l x
  jm : j ≤ p.m
  done : ∀ (i : Nat) (o : Oper), ops[i]? = some o → isEff P o.op = true → p.idx i < j → lst l i
  only : ∀ (i : Nat) (o : Oper), ops[i]? = some o → isEff P o.op = true → lst l i → isAl o = false → p.idx i < j
  rel : R sg' (p.Hs j) W
  fr : Fr sg H W0 sg' (p.Hs j) W
  tsz : a.tmps.size = n
  dfr : a.defers = df
  sOld : ∀ (t : Nat) (u : Value), a.tmps[t]? = some u → (∀ (i : Nat) (o : Oper), ops[i]? = some o → lst l i → o.dst ≠ some t) → VR sg' (p.Hs j).next (getS S t) u
  sNew : ∀ (t : Nat) (u : Value) (i : Nat) (o : Oper), a.tmps[t]? = some u → ops[i]? = some o → lst l i → o.dst = some t → ¬ Early p ops l j i o → VR sg' (p.Hs j).next (p.v i) u
  sEar : ∀ (t : Nat) (u : Value) (i : Nat) (o : Oper), a.tmps[t]? = some u → o.dst = some t → Early p ops l j i o → u = p.mkv i (K i)
  ear : ∀ (i : Nat) (o : Oper), Early p ops l j i o → W.heap[K i]? = some (.cells (p.cl i).toArray (p.et i)) ∧ W0.heap.size ≤ K i ∧ ∀ b ob, (p.Hs j).heap.get b = some ob → (sg' b).1 ≠ K i
  eds : ∀ (i k : Nat) (oi ok : Oper), Early p ops l j i oi → Early p ops l j k ok → K i = K k → i = k
section
variable {p : Plan} {P : Program} {rec : Rec} {ops : Array Oper} {n : Nat} {S S' : T Value} {H H' : ASt} {sg sg' : Nat → Pl} {W0 W : World} {df : List Deferred} {l : Array Bool} {a : Act} {j : Nat} {K : Nat → Nat}
theorem msk_lt (hp : PlanOk p P rec ops n S H S' H') : ∀ (i : Nat) (o : Oper), ops[i]? = some o → ∀ x, (p.msk i).testBit x = true → x < i := by
  intro i
  induction i using Nat.strongRecOn with
  | _ i ih =>
    intro o ho x hx
    obtain ⟨e, he, hb, h⟩ := hp.p1 i o ho x hx
    obtain ⟨h1, h2⟩ := hp.p2 i o ho e he hb
    rcases h with rfl | h
    · exact h1
    · have hi := (Array.getElem?_eq_some_iff.1 ho).1
      have := ih e.on h1 ops[e.on] (Array.getElem?_eq_getElem (by omega)) x h
      omega
/-- An early one becomes known. -/
theorem Inv.know (hp : PlanOk p P rec ops n S H S' H') (h : Inv p P ops n S sg H W0 df l a W sg' j K) {i : Nat} {o : Oper} (he : Early p ops l j i o) (hj : p.idx i = j) : ∃ sg2, Inv p P ops n S sg H W0 df l a W sg2 (j + 1) K := by
  obtain ⟨ho, hal, hl, _⟩ := he
  have heff := hp.ale i o ho hal
  obtain ⟨a1, a2, a3, a4, a5⟩ := hp.alv i o ho hal
  obtain ⟨e1, e2, e3⟩ := h.ear i o ⟨ho, hal, hl, by omega⟩
  rw [hj] at a1 a2
  have hadd := h.rel.add a1 (k := K i) (off := 0) (C := (p.cl i).toArray) (Row.of e1) (fun q u hq => ⟨u, by simpa using hq, VR.of_bare 9 u (a3 u (List.mem_of_getElem? hq))⟩) (fun x B hx e => absurd e (e3 x _ hx))
  have hext := tell_ext sg' (p.Hs j).next ⟨K i, 0, (p.cl i).toArray.size, p.sd i⟩
  have hnx : (p.Hs j).next ≤ (p.Hs (j + 1)).next := by rw [hadd.2]; exact Nat.le_succ _
  have hself : tell sg' (p.Hs j).next ⟨K i, 0, (p.cl i).toArray.size, p.sd i⟩ (p.Hs j).next = ⟨K i, 0, (p.cl i).toArray.size, p.sd i⟩ := if_pos rfl
  have hsz : K i < W.heap.size := (Array.getElem?_eq_some_iff.1 e1).1
  have hget := aadd_get h.rel.big a1
  have hearly : ∀ (q : Nat) (oq : Oper), Early p ops l (j + 1) q oq → Early p ops l j q oq ∧ q ≠ i := fun q oq hq => ⟨⟨hq.1, hq.2.1, hq.2.2.1, by have := hq.2.2.2; omega⟩, fun e => by subst e; have := hq.2.2.2; omega⟩
  have hfr1 : Fr sg' (p.Hs j) W (tell sg' (p.Hs j).next ⟨K i, 0, (p.cl i).toArray.size, p.sd i⟩) (p.Hs (j + 1)) W → True := fun _ => trivial
  refine ⟨tell sg' (p.Hs j).next ⟨K i, 0, (p.cl i).toArray.size, p.sd i⟩, h.size, h.closed, ?_, ?_, ?_, hadd.1, ⟨?_, Nat.le_trans h.fr.next hnx, h.fr.os, h.fr.output, h.fr.tape, h.fr.size, h.fr.same, ?_⟩, h.tsz, h.dfr, ?_, ?_, ?_, ?_, ?_⟩
  · have := hp.im i o ho heff; omega
  · intro q oq hq hqe hqj
    by_cases e : p.idx q = j
    · have := hp.inj q i oq o hq ho hqe heff (by omega)
      subst this; exact hl
    · exact h.done q oq hq hqe (by omega)
  · intro q oq hq hqe hql hqa
    exact Nat.lt_succ_of_lt (h.only q oq hq hqe hql hqa)
  · intro b hb
    rw [hext b (Nat.lt_of_lt_of_le hb h.fr.next)]
    exact h.fr.ext b hb
  · intro b ob hb
    rw [hget] at hb
    split at hb
    · rename_i e
      subst e
      rw [hself]
      exact .inr e2
    · have hlt := h.rel.lt b ob hb
      rw [hext b hlt.2]
      exact h.fr.dom b ob hb
  · exact fun t u hu hno => (h.sOld t u hu hno).ext hext hnx
  · intro t u q oq hu hq hql hqd hne
    by_cases e : q = i
    · subst e
      rw [ho] at hq
      cases hq
      have hu' := h.sEar t u q o hu hqd ⟨ho, hal, hl, by omega⟩
      subst hu'
      rw [a2]
      exact a5 _ _ _ _ (by rw [hadd.2]; exact Nat.lt_succ_self _) h.rel.pos (by rw [hself]) (by rw [hself])
    · by_cases e4 : Early p ops l j q oq
      · refine absurd ⟨hq, e4.2.1, hql, ?_⟩ hne
        have h5 := e4.2.2.2
        by_cases e6 : p.idx q = j
        · exact absurd (hp.inj q i oq o hq ho (hp.ale q oq hq e4.2.1) heff (by omega)) e
        · omega
      · exact (h.sNew t u q oq hu hq hql hqd e4).ext hext hnx
  · intro t u q oq hu hqd hq
    exact h.sEar t u q oq hu hqd (hearly q oq hq).1
  · intro q oq hq
    obtain ⟨q1, q2⟩ := hearly q oq hq
    obtain ⟨r1, r2, r3⟩ := h.ear q oq q1
    refine ⟨r1, r2, fun b ob hb => ?_⟩
    rw [hget] at hb
    split at hb
    · rename_i e
      subst e
      rw [hself]
      intro e4
      exact q2 (h.eds i q o oq ⟨ho, hal, hl, by omega⟩ q1 e4).symm
    · have hlt := h.rel.lt b ob hb
      rw [hext b hlt.2]
      exact r3 b ob hb
  · intro q k oq ok hq hk e
    exact h.eds q k oq ok (hearly q oq hq).1 (hearly k ok hk).1 e
/-- All that has come and may be known is known. -/
theorem Inv.norm (hp : PlanOk p P rec ops n S H S' H') : ∀ (f : Nat) (j : Nat) (sg' : Nat → Pl), p.m - j = f → Inv p P ops n S sg H W0 df l a W sg' j K → ∃ sg2 j2, Inv p P ops n S sg H W0 df l a W sg2 j2 K ∧ ∀ (i : Nat) (o : Oper), ops[i]? = some o → isEff P o.op = true → p.idx i = j2 → ¬ lst l i
  | f, j, sg', hf, h => by
    by_cases hex : ∃ (i : Nat) (o : Oper), ops[i]? = some o ∧ isEff P o.op = true ∧ p.idx i = j ∧ lst l i
    · obtain ⟨i, o, ho, heff, hj, hl⟩ := hex
      have hal : isAl o = true := by
        cases hq : isAl o with
        | true => rfl
        | false => have := h.only i o ho heff hl hq; omega
      obtain ⟨sg2, h2⟩ := h.know hp (o := o) (i := i) ⟨ho, hal, hl, by omega⟩ hj
      have hm := hp.im i o ho heff
      match f, hf with
      | 0, hf => omega
      | f + 1, hf => exact Inv.norm hp f (j + 1) sg2 (by omega) h2
    · exact ⟨sg', j, h, fun i o ho he hj hl => hex ⟨i, o, ho, he, hj, hl⟩⟩
/-- What an operation that is ready finds in a temporary. -/
theorem Inv.slot (hp : PlanOk p P rec ops n S H S' H') (hS : ∀ t, n ≤ t → S.get t = none) (h : Inv p P ops n S sg H W0 df l a W sg' j K) {i : Nat} {o : Oper} (ho : ops[i]? = some o) (hun : ¬ lst l i) (hrdy : ∀ e ∈ o.after, bindsB e = true → lst l e.on)
    (hlo : ∀ (q : Nat) (o' : Oper), ops[q]? = some o' → isEff P o'.op = true → (p.msk i).testBit q = true → p.idx q < j) (t : Nat)
    (hrd : ∀ (k : Nat) (q : Oper), ops[k]? = some q → q.dst = some t → k = i ∨ (∃ e ∈ o.after, bindsB e = true ∧ e.on = k) ∨ (p.msk k).testBit i = true) : VR sg' (p.Hs j).next (getS (p.Sk i) t) (a.tmps.getD t undef) := by
  rw [Array.getD_eq_getD_getElem?]
  obtain ⟨s1, s2, s3⟩ := hp.sk i o ho t
  cases hu : a.tmps[t]? with
  | none =>
    have ht : n ≤ t := by
      have := Array.getElem?_eq_none_iff.1 hu
      rw [← h.tsz]; exact this
    unfold getS
    rw [s3 ht, hS t ht]
    exact undef_VR
  | some u =>
    have ht : t < n := by rw [← h.tsz]; exact (Array.getElem?_eq_some_iff.1 hu).1
    show VR sg' _ _ u
    by_cases hex : ∃ (k : Nat) (q : Oper), ops[k]? = some q ∧ q.dst = some t
    · obtain ⟨k, q, hk, hq⟩ := hex
      have old : ¬ lst l k → ¬ k < i → VR sg' (p.Hs j).next (getS (p.Sk i) t) u := fun h1 h2 => by
        have e : getS (p.Sk i) t = getS S t := by
          unfold getS
          rw [s2 (fun k' q' hk' hq' => by have := hp.dst k k' q q' t hk hk' hq hq'; subst this; exact h2)]
        rw [e]
        exact h.sOld t u hu (fun k' q' hk' hl' hq' => by have := hp.dst k k' q q' t hk hk' hq hq'; subst this; exact h1 hl')
      rcases hrd k q hk hq with rfl | ⟨e, he, hb, rfl⟩ | hm
      · exact old hun (Nat.lt_irrefl _)
      · obtain ⟨h1, h2⟩ := hp.p2 i o ho e he hb
        have e2 : getS (p.Sk i) t = p.v e.on := by
          unfold getS
          rw [s1 e.on q hk hq h1 ht]
        rw [e2]
        refine h.sNew t u e.on q hu hk (hrdy e he hb) hq (fun hea => ?_)
        have := hlo e.on q hk (hp.ale _ _ hk hea.2.1) h2
        have := hea.2.2.2
        omega
      · refine old (fun hl => hun (h.closed k hl i hm)) ?_
        have := msk_lt hp k q hk i hm
        omega
    · have e : getS (p.Sk i) t = getS S t := by
        unfold getS
        rw [s2 (fun k q hk hq => absurd ⟨k, q, hk, hq⟩ hex)]
      rw [e]
      exact h.sOld t u hu (fun k q hk _ hq => hex ⟨k, q, hk, hq⟩)
theorem wanted_gen {N : Nat} {S : T Value} {a : Array Value} (o : Oper) (h : ∀ k w d, o.guard = some (k, w) → dstAt ops.toList k = some d → VR sg N (getS S d) (a.getD d undef)) : Region.wanted o (yielded ops a) = wantedA ops.toList o S := by
  unfold Region.wanted wantedA wantedG
  cases hg : o.guard with
  | none => rfl
  | some pr =>
    obtain ⟨k, w⟩ := pr
    have h := h k w
    simp only [yielded, dstAt, Option.ob_eq, Array.getElem?_toList] at h ⊢
    cases hd : (ops[k]?).bind (fun o => o.dst) with
    | none => rfl
    | some d =>
      have hv := h d hg hd
      rw [Array.getD_eq_getD_getElem?] at hv
      simp only [Option.bind_some]
      cases ha : a[d]? with
      | none =>
        rw [ha] at hv
        simp only [Option.getD_none] at hv
        rw [isB_eq hv]
        rfl
      | some u =>
        rw [ha] at hv
        simp only [Option.getD_some] at hv
        rw [isB_eq hv]
        cases u <;> rfl
/-- An operation that is no variable of its own. -/
theorem Inv.step (hc : CallOk P rec.call) (hr : RoundOk P rec.round) (hp : PlanOk p P rec ops n S H S' H') (hS : ∀ t, n ≤ t → S.get t = none) (h : Inv p P ops n S sg H W0 df l a W sg' j K) {i : Nat} {o : Oper} (ho : ops[i]? = some o) (hun : ¬ lst l i) (hrdy : ∀ e ∈ o.after, bindsB e = true → lst l e.on)
    (hlo : ∀ (q : Nat) (o' : Oper), ops[q]? = some o' → isEff P o'.op = true → (p.msk i).testBit q = true → p.idx q < j) {j' : Nat} (hjj : j ≤ j') (hjm : j' ≤ p.m) (hst : stepA P rec ops.toList o (p.Sk i) (p.Hs j) = some (p.v i, p.Hs j')) (hal : isAl o = false)
    (hj' : ∀ (q : Nat) (oq : Oper), ops[q]? = some oq → isEff P oq.op = true → (p.idx q < j' ↔ p.idx q < j ∨ q = i))
    {r : Option Nat} {m : Nat} {Kc : Act → World → Prop} {Q : Exit → Act → World → Prop} (hK : ∀ a' W' sg2, Inv p P ops n S sg H W0 df (l.setIfInBounds i true) a' W' sg2 j' K → Kc a' W') : wpOpIn (fw r) m P ops Q i Kc a W := by
  have hi : i < l.size := by rw [h.size]; exact (Array.getElem?_eq_some_iff.1 ho).1
  have hops : Ops sg' (p.Hs j).next (p.Sk i) a.eval o.op.operands.toList := fun x hx v hv => by
    cases x with
    | tmp t => cases hv; exact h.slot hp hS ho hun hrdy hlo t (hp.rd i o ho t hx)
    | const u => obtain ⟨rfl, hb⟩ := constV_eq hv; exact VR.of_bare 9 _ hb
    | global g => cases hv
    | func f => cases hv; exact .func _ _ _ _ _ (fun l e => by cases e) rfl rfl (fun i v v' a => by simp at a) (fun i v v' a => by simp at a)
  have hw := wanted_gen (sg := sg') (N := (p.Hs j).next) (ops := ops) (S := p.Sk i) (a := a.tmps) o (fun k w d hg hd => by
    obtain ⟨e, he, hb, rfl⟩ := hp.gd i o k w ho hg
    refine h.slot hp hS ho hun hrdy hlo d (fun k' q' hk' hq' => ?_)
    simp only [dstAt, Option.ob_eq, Array.getElem?_toList, Option.bind_eq_some_iff] at hd
    obtain ⟨oe, hoe, hde⟩ := hd
    have := hp.dst e.on k' oe q' d hoe hk' hde hq'
    exact .inr (.inl ⟨e, he, hb, this⟩))
  have hmask : ∀ x, (p.msk i).testBit x = true → lst l x := fun x hx => by
    obtain ⟨e, he, hb, hx'⟩ := hp.p1 i o ho x hx
    rcases hx' with rfl | hx'
    · exact hrdy e he hb
    · exact h.closed e.on (hrdy e he hb) x hx'
  have hset := lst_set (l := l) hi
  have heq : ∀ (q : Nat) (oq : Oper), Early p ops (l.setIfInBounds i true) j' q oq ↔ Early p ops l j q oq := fun q oq => by
    constructor
    · rintro ⟨h1, h2, h3, h4⟩
      have hne : q ≠ i := fun e => by subst e; rw [ho] at h1; cases h1; rw [hal] at h2; cases h2
      exact ⟨h1, h2, ((hset q).1 h3).resolve_left hne, by omega⟩
    · rintro ⟨h1, h2, h3, h4⟩
      have hne : q ≠ i := fun e => by subst e; rw [ho] at h1; cases h1; rw [hal] at h2; cases h2
      refine ⟨h1, h2, (hset q).2 (.inr h3), ?_⟩
      have := (hj' q oq h1 (hp.ale q oq h1 h2))
      rcases Nat.lt_or_ge (p.idx q) j' with h5 | h5
      · rcases this.1 h5 with h6 | h6
        · omega
        · exact absurd h6 hne
      · exact h5
  -- what follows, the operation's value and the world given
  have go : ∀ v' sg2 W', R sg2 (p.Hs j') W' → Fr sg' (p.Hs j) W sg2 (p.Hs j') W' → VR sg2 (p.Hs j').next (p.v i) v' → Inv p P ops n S sg H W0 df (l.setIfInBounds i true) (a.put o.dst v') W' sg2 j' K := fun v' sg2 W' r1 r2 r3 => by
    have hput : ∀ (t : Nat) (u : Value), (a.put o.dst v').tmps[t]? = some u → (o.dst = some t ∧ u = v') ∨ (o.dst ≠ some t ∧ a.tmps[t]? = some u) := fun t u hu => by
      cases hd : o.dst with
      | none => rw [hd] at hu; exact .inr ⟨fun e => (by cases e), hu⟩
      | some d =>
        rw [hd] at hu
        have hu' : (a.tmps.setIfInBounds d v')[t]? = some u := hu
        rw [Array.getElem?_setIfInBounds] at hu'
        by_cases e : d = t
        · subst e
          rw [if_pos rfl] at hu'
          split at hu'
          · exact .inl ⟨rfl, (Option.some.inj hu').symm⟩
          · cases hu'
        · rw [if_neg e] at hu'
          exact .inr ⟨fun q => e (Option.some.inj q), hu'⟩
    refine ⟨by simpa using h.size, fun q hq x hx => ?_, hjm, fun q oq hq hqe hqj => ?_, fun q oq hq hqe hql hqa => ?_, r1, h.fr.trans r2, ?_, by rw [Act.put_defers']; exact h.dfr, fun t u hu hno => ?_, fun t u q oq hu hq hql hqd hne => ?_, fun t u q oq hu hqd hqe => ?_, fun q oq hq => ?_, fun q k oq ok hq hk e => h.eds q k oq ok ((heq q oq).1 hq) ((heq k ok).1 hk) e⟩
    · rw [hset] at hq ⊢
      rcases hq with rfl | hq
      · exact .inr (hmask x hx)
      · exact .inr (h.closed q hq x hx)
    · rw [hset]
      rcases (hj' q oq hq hqe).1 hqj with h1 | h1
      · exact .inr (h.done q oq hq hqe h1)
      · exact .inl h1
    · rw [hset] at hql
      refine (hj' q oq hq hqe).2 ?_
      rcases hql with h1 | h1
      · exact .inr h1
      · exact .inl (h.only q oq hq hqe h1 hqa)
    · cases o.dst with
      | none => exact h.tsz
      | some d => show (a.tmps.setIfInBounds d v').size = n; simpa using h.tsz
    · rcases hput t u hu with ⟨h1, rfl⟩ | ⟨h1, h2⟩
      · exact absurd h1 (hno i o ho ((hset i).2 (.inl rfl)))
      · exact (h.sOld t u h2 (fun q oq hq hql => hno q oq hq ((hset q).2 (.inr hql)))).ext r2.ext r2.next
    · rcases hput t u hu with ⟨h1, rfl⟩ | ⟨h1, h2⟩
      · have := hp.dst i q o oq t ho hq h1 hqd
        subst this
        exact r3
      · have hne2 : q ≠ i := fun e => by subst e; rw [ho] at hq; cases hq; exact h1 hqd
        exact (h.sNew t u q oq h2 hq (((hset q).1 hql).resolve_left hne2) hqd (fun he => hne ((heq q oq).2 he))).ext r2.ext r2.next
    · rcases hput t u hu with ⟨h1, rfl⟩ | ⟨h1, h2⟩
      · have := hp.dst i q o oq t ho hqe.1 h1 hqd
        subst this
        have h5 := hqe.1
        rw [ho] at h5
        cases h5
        have h6 := hqe.2.1
        rw [hal] at h6
        cases h6
      · exact h.sEar t u q oq h2 hqd ((heq q oq).1 hqe)
    · obtain ⟨q1, q2, q3⟩ := h.ear q oq ((heq q oq).1 hq)
      have hlt : K q < W.heap.size := (Array.getElem?_eq_some_iff.1 q1).1
      refine ⟨(r2.same (K q) hlt (fun b ob hb e => q3 b ob hb e)).trans q1, q2, fun b ob hb e => ?_⟩
      rcases r2.dom b ob hb with ⟨b0, o0, h0, h1⟩ | h1
      · exact q3 b0 o0 h0 (h1.trans e)
      · omega
  unfold wpOpIn
  rw [ho]
  simp only
  unfold stepA at hst
  rw [hw]
  cases hwa : wantedA ops.toList o (p.Sk i) with
  | false =>
    rw [hwa, cond_false] at hst
    simp only [Bool.false_eq_true, if_false]
    have e1 : p.v i = undef := (Prod.mk.inj (Option.some.inj hst)).1.symm
    have e2 : p.Hs j' = p.Hs j := (Prod.mk.inj (Option.some.inj hst)).2.symm
    refine ⟨fun f _ => trivial, hK _ W sg' (go undef sg' W (by rw [e2]; exact h.rel) (by rw [e2]; exact Fr.refl _ _ _) (by rw [e1]; exact undef_VR))⟩
  | true =>
    rw [hwa, cond_true] at hst
    simp only [if_true]
    exact xop_ok hc hr h.rel hops hst (fun v' sg2 W' r1 r2 r3 => hK _ W' sg2 (go v' sg2 W' r1 r2 r3))
/-- A variable of its own: it may come at any time. -/
theorem Inv.alloc (hp : PlanOk p P rec ops n S H S' H') (h : Inv p P ops n S sg H W0 df l a W sg' j K) {i : Nat} {o : Oper} (ho : ops[i]? = some o) (hun : ¬ lst l i) (hrdy : ∀ e ∈ o.after, bindsB e = true → lst l e.on) (hal : isAl o = true)
    {r : Option Nat} {m : Nat} {Kc : Act → World → Prop} {Q : Exit → Act → World → Prop} (hK : ∀ a' W' K', Inv p P ops n S sg H W0 df (l.setIfInBounds i true) a' W' sg' j K' → Kc a' W') : wpOpIn (fw r) m P ops Q i Kc a W := by
  have hi : i < l.size := by rw [h.size]; exact (Array.getElem?_eq_some_iff.1 ho).1
  have hset := lst_set (l := l) hi
  have heff := hp.ale i o ho hal
  obtain ⟨a1, a2, a3, a4, a5⟩ := hp.alv i o ho hal
  have hidx : j ≤ p.idx i := by
    rcases Nat.lt_or_ge (p.idx i) j with h1 | h1
    · exact absurd (h.done i o ho heff h1) hun
    · exact h1
  have hmask : ∀ x, (p.msk i).testBit x = true → lst l x := fun x hx => by
    obtain ⟨e, he, hb, hx'⟩ := hp.p1 i o ho x hx
    rcases hx' with rfl | hx'
    · exact hrdy e he hb
    · exact h.closed e.on (hrdy e he hb) x hx'
  have hg : o.guard = none := by
    unfold isAl at hal
    rw [Bool.and_eq_true] at hal
    cases hq : o.guard with
    | none => rfl
    | some x => rw [hq] at hal; cases hal.2
  have hearly : ∀ (q : Nat) (oq : Oper), Early p ops (l.setIfInBounds i true) j q oq → q ≠ i → Early p ops l j q oq := fun q oq hq hne => ⟨hq.1, hq.2.1, ((hset q).1 hq.2.2.1).resolve_left hne, hq.2.2.2⟩
  have hput : ∀ (t : Nat) (u v' : Value), (a.put o.dst v').tmps[t]? = some u → (o.dst = some t ∧ u = v') ∨ (o.dst ≠ some t ∧ a.tmps[t]? = some u) := fun t u v' hu => by
    cases hd : o.dst with
    | none => rw [hd] at hu; exact .inr ⟨fun e => (by cases e), hu⟩
    | some d =>
      rw [hd] at hu
      have hu' : (a.tmps.setIfInBounds d v')[t]? = some u := hu
      rw [Array.getElem?_setIfInBounds] at hu'
      by_cases e : d = t
      · subst e
        rw [if_pos rfl] at hu'
        split at hu'
        · exact .inl ⟨rfl, (Option.some.inj hu').symm⟩
        · cases hu'
      · rw [if_neg e] at hu'
        exact .inr ⟨fun q => e (Option.some.inj q), hu'⟩
  have hpush : ∀ k, k < W.heap.size → (W.alloc (.cells (p.cl i).toArray (p.et i))).heap[k]? = W.heap[k]? := fun k hk => by
    show (W.heap.push _)[k]? = _
    rw [Array.getElem?_push, if_neg (by omega)]
  have hnd : ∀ c, o.op ≠ .defer c := fun c e => by
    unfold isAl at hal
    rw [e] at hal
    cases hal
  unfold wpOpIn
  rw [ho]
  simp only
  have hw : Region.wanted o (yielded ops a.tmps) = true := by unfold Region.wanted; rw [hg]
  rw [hw]
  simp only [if_true]
  refine ⟨fun f _ => trivial, ?_⟩
  rw [Oper.semAt_plain (fw r) _ _ hnd, a4 a W]
  show Kc _ _
  have hsg : (W.alloc (.cells (p.cl i).toArray (p.et i))).heap.size = W.heap.size + 1 := by show (W.heap.push _).size = _; simp
  have hKi : (fun q => if q = i then W.heap.size else K q) i = W.heap.size := if_pos rfl
  have hKo : ∀ q, q ≠ i → (fun q => if q = i then W.heap.size else K q) q = K q := fun q hq => if_neg hq
  refine hK _ _ (fun q => if q = i then W.heap.size else K q) ⟨by simpa using h.size, fun q hq x hx => ?_, h.jm, fun q oq hq hqe hqj => (hset q).2 (.inr (h.done q oq hq hqe hqj)), fun q oq hq hqe hql hqa => ?_, h.rel.world (fun b ob hb => hpush _ (h.rel.inside hb)), ?_, ?_, by rw [Act.put_defers']; exact h.dfr, fun t u hu hno => ?_, fun t u q oq hu hq hql hqd hne => ?_, fun t u q oq hu hqd hqe => ?_, fun q oq hq => ?_, fun q k oq ok hq hk e => ?_⟩
  · rw [hset] at hq ⊢
    rcases hq with rfl | hq
    · exact .inr (hmask x hx)
    · exact .inr (h.closed q hq x hx)
  · rcases (hset q).1 hql with rfl | h1
    · rw [ho] at hq; cases hq; rw [hal] at hqa; cases hqa
    · exact h.only q oq hq hqe h1 hqa
  · exact h.fr.trans (Fr.push h.rel _)
  · cases o.dst with
    | none => exact h.tsz
    | some d => show (a.tmps.setIfInBounds d _).size = n; simpa using h.tsz
  · rcases hput t u _ hu with ⟨h1, rfl⟩ | ⟨h1, h2⟩
    · exact absurd h1 (hno i o ho ((hset i).2 (.inl rfl)))
    · exact h.sOld t u h2 (fun q oq hq hql => hno q oq hq ((hset q).2 (.inr hql)))
  · by_cases hqi : q = i
    · subst hqi
      rw [ho] at hq
      cases hq
      exact absurd ⟨ho, hal, hql, hidx⟩ hne
    · rcases hput t u _ hu with ⟨h1, rfl⟩ | ⟨h1, h2⟩
      · exact absurd (hp.dst q i oq o t hq ho hqd h1) hqi
      · exact h.sNew t u q oq h2 hq (((hset q).1 hql).resolve_left hqi) hqd (fun he => hne ⟨he.1, he.2.1, hql, he.2.2.2⟩)
  · by_cases hqi : q = i
    · subst hqi
      have h5 := hqe.1
      rw [ho] at h5
      cases h5
      rcases hput t u _ hu with ⟨h1, rfl⟩ | ⟨h1, h2⟩
      · show _ = p.mkv q (if q = q then W.heap.size else K q); rw [if_pos rfl]
      · exact absurd hqd h1
    · rcases hput t u _ hu with ⟨h1, rfl⟩ | ⟨h1, h2⟩
      · exact absurd (hp.dst q i oq o t hqe.1 ho hqd h1) hqi
      · show u = p.mkv q (if q = i then W.heap.size else K q)
        rw [if_neg hqi]
        exact h.sEar t u q oq h2 hqd (hearly q oq hqe hqi)
  · by_cases hqi : q = i
    · subst hqi
      have h5 := hq.1
      rw [ho] at h5
      cases h5
      show (W.alloc _).heap[if q = q then W.heap.size else K q]? = _ ∧ W0.heap.size ≤ (if q = q then W.heap.size else K q) ∧ ∀ b ob, (p.Hs j).heap.get b = some ob → (sg' b).1 ≠ (if q = q then W.heap.size else K q)
      rw [if_pos rfl]
      exact ⟨World.alloc_heap_new W _, h.fr.size, fun b ob hb e => by have := h.rel.inside hb; omega⟩
    · show (W.alloc _).heap[if q = i then W.heap.size else K q]? = _ ∧ W0.heap.size ≤ (if q = i then W.heap.size else K q) ∧ ∀ b ob, (p.Hs j).heap.get b = some ob → (sg' b).1 ≠ (if q = i then W.heap.size else K q)
      rw [if_neg hqi]
      obtain ⟨q1, q2, q3⟩ := h.ear q oq (hearly q oq hq hqi)
      exact ⟨(hpush _ (Array.getElem?_eq_some_iff.1 q1).1).trans q1, q2, q3⟩
  · have e' : (if q = i then W.heap.size else K q) = (if k = i then W.heap.size else K k) := e
    by_cases hqi : q = i
    · by_cases hki : k = i
      · rw [hqi, hki]
      · rw [if_pos hqi, if_neg hki] at e'
        have := (Array.getElem?_eq_some_iff.1 (h.ear k ok (hearly k ok hk hki)).1).1
        omega
    · by_cases hki : k = i
      · rw [if_neg hqi, if_pos hki] at e'
        have := (Array.getElem?_eq_some_iff.1 (h.ear q oq (hearly q oq hq hqi)).1).1
        omega
      · rw [if_neg hqi, if_neg hki] at e'
        exact h.eds q k oq ok (hearly q oq hq hqi) (hearly k ok hk hki) e'
end
end
end Go.Proofs.YtgdlpgakhhebeaaGreatDoor.Ev
end
section
set_option linter.unusedVariables false
namespace Go.Proofs.YtgdlpgakhhebeaaGreatDoor.Ev
open Go
noncomputable section

/-- How many have not come. -/
def unl (l : Array Bool) : Nat := (l.toList.filter (fun b => !b)).length
theorem unl_list : ∀ (L : List Bool) (i : Nat), L[i]? = some false → ((L.set i true).filter (fun b => !b)).length + 1 = (L.filter (fun b => !b)).length
  | [], i, h => by cases h
  | b :: L, 0, h => by cases h; simp
  | b :: L, i + 1, h => by
    have := unl_list L i h
    cases b <;> simp [List.set_cons_succ, List.filter_cons] <;> omega
theorem unl_set {l : Array Bool} {i : Nat} (hi : i < l.size) (h : ¬ lst l i) : unl (l.setIfInBounds i true) + 1 = unl l := by
  unfold unl
  rw [Array.toList_setIfInBounds]
  refine unl_list l.toList i ?_
  unfold lst at h
  rw [Array.getD_eq_getD_getElem?] at h
  rw [Array.getElem?_toList]
  rw [Array.getElem?_eq_getElem hi] at h ⊢
  simp at h
  rw [h]
theorem unl_zero {l : Array Bool} (h : unl l = 0) (i : Nat) (hi : i < l.size) : lst l i := by
  unfold unl at h
  have h0 := List.eq_nil_of_length_eq_zero h
  rw [List.filter_eq_nil_iff] at h0
  have := h0 l[i] (by simp)
  unfold lst
  rw [Array.getD_eq_getD_getElem?, Array.getElem?_eq_getElem hi]
  simpa using this
section
variable {p : Plan} {P : Program} {rec : Rec} {ops : Array Oper} {n : Nat} {S S' : T Value} {H H' : ASt} {sg : Nat → Pl} {W0 : World} {D : List Nat} {a0 : Act}
theorem ready_lst {l : Array Bool} {i : Nat} (h : i ∈ Region.ready .any ops l) : ¬ lst l i ∧ ∃ o, ops[i]? = some o ∧ ∀ e ∈ o.after, bindsB e = true → lst l e.on := by
  obtain ⟨h1, o, h2, h3⟩ := mem_ready.1 h
  refine ⟨fun h4 => ?_, o, h2, h3⟩
  unfold lst at h4
  rw [Array.getD_eq_getD_getElem?] at h1 h4
  cases hq : l[i]? with
  | none => rw [hq] at h1; cases h1
  | some b => rw [hq] at h1 h4; simp at h1 h4; rw [h1] at h4; cases h4
theorem all_lst (hp : PlanOk p P rec ops n S H S' H') {l : Array Bool} (hs : l.size = ops.size) (h : Region.ready .any ops l = []) : ∀ i, i < ops.size → lst l i := by
  intro i
  induction i using Nat.strongRecOn with
  | _ i ih =>
    intro hi
    by_cases hl : lst l i
    · exact hl
    · exfalso
      have : i ∈ Region.ready .any ops l := mem_ready.2 ⟨by
        unfold lst at hl
        rw [Array.getD_eq_getD_getElem?] at hl ⊢
        rw [Array.getElem?_eq_getElem (by omega)] at hl ⊢
        simpa using hl, ops[i], Array.getElem?_eq_getElem hi, fun e he hb => by
        have := (hp.p2 i ops[i] (Array.getElem?_eq_getElem hi) e he hb).1
        exact ih e.on this (by omega)⟩
      rw [h] at this
      cases this
/-- All have come. -/
theorem Inv.final (hp : PlanOk p P rec ops n S H S' H') (hS : ∀ t, n ≤ t → S.get t = none) (ha : ActR sg H.next S n D a0) {l : Array Bool} {a : Act} {W : World} {sg' : Nat → Pl} {j : Nat} {K : Nat → Nat} (h : Inv p P ops n S sg H W0 a0.defers l a W sg' j K) (hall : ∀ i, i < ops.size → lst l i) :
    ∃ sg2, R sg2 H' W ∧ Fr sg H W0 sg2 H' W ∧ ActR sg2 H'.next S' n D a := by
  obtain ⟨sg2, j2, h2, hn⟩ := Inv.norm hp (p.m - j) j sg' rfl h
  have hj : j2 = p.m := by
    rcases Nat.lt_or_ge j2 p.m with h3 | h3
    · obtain ⟨i, o, h4, h5, h6⟩ := hp.ex j2 h3
      exact absurd (hall i (Array.getElem?_eq_some_iff.1 h4).1) (hn i o h4 h5 h6)
    · have := h2.jm; omega
  subst hj
  have hrel := h2.rel
  have hfr := h2.fr
  rw [hp.hm] at hrel hfr
  refine ⟨sg2, hrel, hfr, ⟨⟨h2.tsz, fun t ht => ?_, fun t u hu => ?_⟩, ha.small, ?_, fun d hd => Nat.lt_of_lt_of_le (ha.low d hd) hfr.next⟩⟩
  · rw [(hp.fin t).2.2 ht]; exact hS t ht
  · have ht : t < n := by rw [← h2.tsz]; exact (Array.getElem?_eq_some_iff.1 hu).1
    by_cases hex : ∃ (k : Nat) (q : Oper), ops[k]? = some q ∧ q.dst = some t
    · obtain ⟨k, q, hk, hq⟩ := hex
      rw [(hp.fin t).1 k q hk hq ht]
      have := h2.sNew t u k q hu hk (hall k (Array.getElem?_eq_some_iff.1 hk).1) hq (fun he => by
        have h3 := hp.im k q hk (hp.ale k q hk he.2.1)
        have h4 := he.2.2.2
        omega)
      rw [hp.hm] at this
      exact this
    · rw [(hp.fin t).2.1 (fun k q hk hq => hex ⟨k, q, hk, hq⟩)]
      have := h2.sOld t u hu (fun k q hk _ hq => hex ⟨k, q, hk, hq⟩)
      rw [hp.hm] at this
      exact this
  · rw [h2.dfr, ha.marks]
    exact List.map_congr_left (fun d hd => by rw [hfr.ext d (ha.low d hd)])
theorem sim (hc : CallOk P rec.call) (hr : RoundOk P rec.round) (hp : PlanOk p P rec ops n S H S' H') (hS : ∀ t, n ≤ t → S.get t = none) (ha : ActR sg H.next S n D a0) {r : Option Nat} {m : Nat} {Q : Exit → Act → World → Prop}
    (hQ : ∀ a' W' sg', R sg' H' W' → Fr sg H W0 sg' H' W' → ActR sg' H'.next S' n D a' → Q .normal a' W') :
    ∀ (fuel : Nat) (l : Array Bool) (a : Act) (W : World) (sg' : Nat → Pl) (j : Nat) (K : Nat → Nat), unl l = fuel → Inv p P ops n S sg H W0 a0.defers l a W sg' j K → wpAnyIn (fw r) m P .any ops Q fuel l a W
  | 0, l, a, W, sg', j, K, hu, h => by
    have hall : ∀ i, i < ops.size → lst l i := fun i hi => unl_zero hu i (by rw [h.size]; exact hi)
    obtain ⟨sg2, q1, q2, q3⟩ := h.final hp hS ha hall
    refine ⟨?_, hQ a W sg2 q1 q2 q3⟩
    rw [List.eq_nil_iff_forall_not_mem]
    intro i hi
    obtain ⟨h1, o, h2, _⟩ := ready_lst hi
    exact h1 (hall i (Array.getElem?_eq_some_iff.1 h2).1)
  | fuel + 1, l, a, W, sg', j, K, hu, h => by
    refine ⟨fun hrd => ?_, fun i hi => ?_⟩
    · obtain ⟨sg2, q1, q2, q3⟩ := h.final hp hS ha (all_lst hp h.size hrd)
      exact hQ a W sg2 q1 q2 q3
    · obtain ⟨hun, o, ho, hrdy⟩ := ready_lst hi
      have hsz : i < l.size := by rw [h.size]; exact (Array.getElem?_eq_some_iff.1 ho).1
      have hu' : unl (l.setIfInBounds i true) = fuel := by have := unl_set hsz hun; omega
      obtain ⟨sg2, j2, h2, hn⟩ := Inv.norm hp (p.m - j) j sg' rfl h
      have hmask : ∀ x, (p.msk i).testBit x = true → lst l x := fun x hx => by
        obtain ⟨e, he, hb, hx'⟩ := hp.p1 i o ho x hx
        rcases hx' with rfl | hx'
        · exact hrdy e he hb
        · exact h2.closed e.on (hrdy e he hb) x hx'
      cases hal : isAl o with
      | true => exact h2.alloc hp ho hun hrdy hal (fun a' W' K' hi' => sim hc hr hp hS ha hQ fuel _ a' W' sg2 j2 K' hu' hi')
      | false =>
        obtain ⟨lo, l1, l2, l3⟩ := hp.pre i o ho hal
        have hlo : lo ≤ j2 := by
          rcases Nat.lt_or_ge j2 lo with h3 | h3
          · obtain ⟨q, oq, h4, h5, h6⟩ := hp.ex j2 (by omega)
            exact absurd (hmask q ((l2 q oq h4 h5).2 (by omega))) (hn q oq h4 h5 h6)
          · exact h3
        have hlo' : ∀ (q : Nat) (o' : Oper), ops[q]? = some o' → isEff P o'.op = true → (p.msk i).testBit q = true → p.idx q < j2 := fun q o' h4 h5 h6 => by
          have := (l2 q o' h4 h5).1 h6
          omega
        cases heff : isEff P o.op with
        | true =>
          have hidx : p.idx i = j2 := by
            rcases Nat.lt_or_ge (p.idx i) j2 with h3 | h3
            · exact absurd (h2.done i o ho heff h3) hun
            · have := l3 heff; omega
          have hst := hp.efv i o ho heff
          rw [hidx] at hst
          have hm := hp.im i o ho heff
          refine h2.step hc hr hp hS ho hun hrdy hlo' (j' := j2 + 1) (by omega) (by omega) hst hal (fun q oq hq hqe => ?_) (fun a' W' sg3 hi' => sim hc hr hp hS ha hQ fuel _ a' W' sg3 (j2 + 1) K hu' hi')
          constructor
          · intro h3
            by_cases h4 : p.idx q = j2
            · exact .inr (hp.inj q i oq o hq ho hqe heff (by omega))
            · exact .inl (by omega)
          · rintro (h3 | rfl)
            · omega
            · omega
        | false =>
          have hst := hp.rdv i o ho heff j2 h2.jm hlo' (fun q oq hq hqe hqj => by
            cases hb : (p.msk q).testBit i with
            | false => rfl
            | true => exact absurd (h2.closed q (h2.done q oq hq hqe hqj) i hb) hun)
          refine h2.step hc hr hp hS ho hun hrdy hlo' (j' := j2) (Nat.le_refl _) h2.jm hst hal (fun q oq hq hqe => ?_) (fun a' W' sg3 hi' => sim hc hr hp hS ha hQ fuel _ a' W' sg3 j2 K hu' hi')
          constructor
          · exact fun h3 => .inl h3
          · rintro (h3 | rfl)
            · exact h3
            · rw [ho] at hq; cases hq; rw [heff] at hqe; cases hqe
theorem plan_region (hc : CallOk P rec.call) (hr : RoundOk P rec.round) (hm : P.follows .mixedOrders = true) (hp : PlanOk p P rec ops n S H S' H') (hR : R sg H W0) (ha : ActR sg H.next S n D a0) {r : Option Nat} {m id : Nat} {Q : Exit → Act → World → Prop}
    (hQ : ∀ a' W' sg', R sg' H' W' → Fr sg H W0 sg' H' W' → ActR sg' H'.next S' n D a' → Q .normal a' W') : (Code.region id ops true).wpIn (fw r) m P Q a0 W0 := by
  refine wpIn_region_any hm ?_
  have hun : unl (Array.replicate ops.size false) = ops.size := by
    unfold unl
    rw [Array.toList_replicate]
    simp
  have hno : ∀ i, ¬ lst (Array.replicate ops.size false) i := fun i h => by
    unfold lst at h
    rw [Array.getD_eq_getD_getElem?, Array.getElem?_replicate] at h
    split at h <;> simp at h
  refine sim hc hr hp ha.slots.2.1 ha hQ ops.size _ _ _ sg 0 (fun _ => 0) hun ?_
  have hnE : ∀ (i : Nat) (o : Oper), ¬ Early p ops (Array.replicate ops.size false) 0 i o := fun i o h => hno i h.2.2.1
  refine ⟨by simp, fun i h => absurd h (hno i), Nat.zero_le _, fun i o _ _ h => by omega, fun i o _ _ h => absurd h (hno i), ?_, ?_, ha.slots.1, rfl, fun t u hu _ => ?_, fun t u i o _ _ h => absurd h (hno i), fun t u i o _ _ h => absurd h (hnE i o), fun i o h => absurd h (hnE i o), fun i k oi ok h => absurd h (hnE i oi)⟩
  · rw [hp.h0]; exact hR.world (fun _ _ _ => rfl)
  · rw [hp.h0]; exact ⟨Ext.refl _ _, Nat.le_refl _, rfl, rfl, rfl, Nat.le_refl _, fun _ _ _ => rfl, fun b o h => .inl ⟨b, o, h, rfl⟩⟩
  · rw [hp.h0]
    exact ha.slots.2.2 t u hu
end
end
end Go.Proofs.YtgdlpgakhhebeaaGreatDoor.Ev
end
