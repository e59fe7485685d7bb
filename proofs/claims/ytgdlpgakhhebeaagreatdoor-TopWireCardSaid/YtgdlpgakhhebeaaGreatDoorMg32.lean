/- Part 32 of the proof of TopWire: Evw, Evz. -/
import Derived.LoopNIn
import Derived.Scope
import Derived.Test.YtgdlpgakhhebeaaGreatDoorMg31
section
set_option linter.unusedVariables false
namespace Go.Proofs.YtgdlpgakhhebeaaGreatDoor.Ev
open Go
noncomputable section

def exR : AEx → Exit → Prop
  | .normal, .normal => True
  | .exit i, .exit j => i = j
  | .goto i, .goto j => i = j
  | .ret, .ret => True
  | _, _ => False
/-- What a statement leaves. -/
def Post (e : AEx) (sg : Nat → Pl) (H : ASt) (W : World) (st' : St) : Exit → Act → World → Prop := fun e' a' W' => exR e e' ∧ ∃ sg', R sg' st'.H W' ∧ Fr sg H W sg' st'.H W' ∧ ActR sg' st'.H.next st'.S st'.n st'.D a'
theorem Post.from' {e : AEx} {sg sg1 : Nat → Pl} {H H1 : ASt} {W W1 : World} {st' : St} (hf : Fr sg H W sg1 H1 W1) : ∀ e' a' W', Post e sg1 H1 W1 st' e' a' W' → Post e sg H W st' e' a' W' :=
  fun e' a' W' ⟨h1, sg', h2, h3, h4⟩ => ⟨h1, sg', h2, hf.trans h3, h4⟩
/-- The fence of a round, or none. -/
def fR (sg : Nat → Pl) (rd : Option Nat) : Fence := fw (rd.map fun l => (sg l).1)
theorem fR_ext {sg sg' : Nat → Pl} {N : Nat} {rd : Option Nat} (he : Ext N sg sg') (hl : ∀ l, rd = some l → l < N) : fR sg' rd = fR sg rd := by
  cases rd with
  | none => rfl
  | some l => unfold fR; simp only [Option.map_some]; rw [he l (hl l rfl)]
def CodeOk (P : Program) (code : Option Nat → Code → St → CodeR) : Prop := ∀ rd c st e st', code rd c st = some (e, st') → ∀ sg W a m, R sg st.H W → ActR sg st.H.next st.S st.n st.D a → (∀ l, rd = some l → l < st.H.next) →
  c.wpIn (fR sg rd) m P (Post e sg st.H W st') a W
def LoopOk (P : Program) (code : Option Nat → Code → St → CodeR) : Prop := ∀ rd b st e st', code rd (.loop b) st = some (e, st') → ∃ j, ∀ sg W a m, R sg st.H W → ActR sg st.H.next st.S st.n st.D a → (∀ l, rd = some l → l < st.H.next) →
  Code.roundsIn (fR sg rd) m P b (Post e sg st.H W st') j a W
structure RecOk (P : Program) (rec : Rec) : Prop where
  code : CodeOk P rec.code
  loop : LoopOk P rec.code
  call : CallOk P rec.call
  round : RoundOk P rec.round
/-- Regions that draw their order. -/
def DrawnOk (P : Program) (rec : Rec) : Prop := ∀ (ops : Array Oper) (id n : Nat) (S S' : T Value) (H H' : ASt), drawn P rec ops.toList n S H = some (S', H') → ∀ (D : List Nat) (sg : Nat → Pl) (W : World) (a : Act) (r : Option Nat) (m : Nat) (Q : Exit → Act → World → Prop), R sg H W → ActR sg H.next S n D a →
  (∀ a' W' sg', R sg' H' W' → Fr sg H W sg' H' W' → ActR sg' H'.next S' n D a' → Q .normal a' W') → (Code.region id ops true).wpIn (fw r) m P Q a W
theorem roundsIn_mono {F : Fence} {n : Nat} {P : Program} {c : Code} {Q Q' : Exit → Act → World → Prop} (hq : ∀ e a w, Q e a w → Q' e a w) : ∀ (j : Nat) (a : Act) (w : World), Code.roundsIn F n P c Q j a w → Code.roundsIn F n P c Q' j a w
  | 0, a, w, h => h
  | j + 1, a, w, h => by
    rw [roundsIn_succ] at h ⊢
    refine wpIn_mono h ?_
    intro e a' w' h'
    cases e with
    | normal => exact roundsIn_mono hq j a' w' h'
    | exit id => exact hq _ _ _ h'
    | goto l => exact hq _ _ _ h'
    | ret => exact hq _ _ _ h'
    | panic ch => exact hq _ _ _ h'
    | outgrown => exact hq _ _ _ h'
section
variable {P : Program} {rec : Rec}
theorem goOn_eq {k : St → CodeR} {p : AEx × St} {e : AEx} {st' : St} (h : goOn k p = some (e, st')) : (p.1 = .normal ∧ k p.2 = some (e, st')) ∨ (p.1 ≠ .normal ∧ p = (e, st')) := by
  obtain ⟨x, s⟩ := p
  cases x with
  | normal => exact .inl ⟨rfl, h⟩
  | exit i => exact .inr ⟨fun e => (by cases e), (by cases h; rfl)⟩
  | goto i => exact .inr ⟨fun e => (by cases e), (by cases h; rfl)⟩
  | ret => exact .inr ⟨fun e => (by cases e), (by cases h; rfl)⟩
theorem then_of {next : Act → World → Prop} {Q : Exit → Act → World → Prop} {x : AEx} (hx : x ≠ .normal) {e : Exit} {a : Act} {w : World} (he : exR x e) (h : Q e a w) : Exit.then next Q e a w := by
  cases e with
  | normal => cases x <;> first | exact absurd rfl hx | exact he.elim
  | _ => exact h
theorem normal_of {e : Exit} (h : exR .normal e) : e = .normal := by cases e <;> first | rfl | exact h.elim
theorem seq_ok (hk : RecOk P rec) {rd : Option Nat} {b : Code} {x y : Code} {st st' : St} {e : AEx} (h : (rec.code rd x st).bind (goOn (rec.code rd y)) = some (e, st')) {sg : Nat → Pl} {W : World} {a : Act} {m : Nat} (hR : R sg st.H W) (ha : ActR sg st.H.next st.S st.n st.D a) (hl : ∀ l, rd = some l → l < st.H.next) :
    (Code.seq x y).wpIn (fR sg rd) m P (Post e sg st.H W st') a W := by
  rw [Option.bind_eq_some_iff] at h
  obtain ⟨⟨e1, st1⟩, h1, h2⟩ := h
  refine wpIn_seq (wpIn_mono (hk.code rd x st e1 st1 h1 sg W a m hR ha hl) ?_)
  rintro e' a' W' ⟨he, sg', r1, r2, r3⟩
  rcases goOn_eq h2 with ⟨h0, h3⟩ | ⟨hne, h3⟩
  · have h0 : e1 = .normal := h0
    subst h0
    have := normal_of he
    subst this
    have hl' : ∀ l, rd = some l → l < st1.H.next := fun l q => Nat.lt_of_lt_of_le (hl l q) r2.next
    have := hk.code rd y st1 e st' h3 sg' W' a' m r1 r3 hl'
    rw [fR_ext r2.ext hl] at this
    exact wpIn_mono this (Post.from' r2)
  · cases h3
    exact then_of hne he ⟨he, sg', r1, r2, r3⟩
theorem loop_ok (hk : RecOk P rec) {rd : Option Nat} {b : Code} {st st' : St} {e : AEx} (h : (rec.code rd b st).bind (goOn (rec.code rd (.loop b))) = some (e, st')) :
    ∃ j, ∀ sg W a m, R sg st.H W → ActR sg st.H.next st.S st.n st.D a → (∀ l, rd = some l → l < st.H.next) → Code.roundsIn (fR sg rd) m P b (Post e sg st.H W st') j a W := by
  rw [Option.bind_eq_some_iff] at h
  obtain ⟨⟨e1, st1⟩, h1, h2⟩ := h
  rcases goOn_eq h2 with ⟨h0, h3⟩ | ⟨hne, h3⟩
  · have h0 : e1 = .normal := h0
    subst h0
    obtain ⟨j, hj⟩ := hk.loop rd b st1 e st' h3
    refine ⟨j + 1, fun sg W a m hR ha hl => ?_⟩
    rw [roundsIn_succ]
    refine wpIn_mono (hk.code rd b st .normal st1 h1 sg W a m hR ha hl) ?_
    rintro e' a' W' ⟨he, sg', r1, r2, r3⟩
    have := normal_of he
    subst this
    have hl' : ∀ l, rd = some l → l < st1.H.next := fun l q => Nat.lt_of_lt_of_le (hl l q) r2.next
    have := hj sg' W' a' m r1 r3 hl'
    rw [fR_ext r2.ext hl] at this
    exact roundsIn_mono (Post.from' r2) j a' W' this
  · cases h3
    refine ⟨1, fun sg W a m hR ha hl => ?_⟩
    rw [roundsIn_succ]
    refine wpIn_mono (hk.code rd b st e st' h1 sg W a m hR ha hl) ?_
    rintro e' a' W' ⟨he, hp⟩
    exact then_of hne he ⟨he, hp⟩
theorem block_ok (hk : RecOk P rec) {rd : Option Nat} {id : Nat} {b : Code} {st st' : St} {e : AEx} (h : (rec.code rd b st).bind (outOf id) = some (e, st')) {sg : Nat → Pl} {W : World} {a : Act} {m : Nat} (hR : R sg st.H W) (ha : ActR sg st.H.next st.S st.n st.D a) (hl : ∀ l, rd = some l → l < st.H.next) :
    (Code.block id b).wpIn (fR sg rd) m P (Post e sg st.H W st') a W := by
  rw [Option.bind_eq_some_iff] at h
  obtain ⟨⟨e1, st1⟩, h1, h2⟩ := h
  refine wpIn_block (wpIn_mono (hk.code rd b st e1 st1 h1 sg W a m hR ha hl) ?_)
  rintro e' a' W' ⟨he, hp⟩
  cases e1 with
  | normal => cases h2; cases normal_of he; exact ⟨he, hp⟩
  | goto i => cases h2; cases e' <;> first | exact he.elim | exact ⟨he, hp⟩
  | ret => cases h2; cases e' <;> first | exact he.elim | exact ⟨he, hp⟩
  | exit j =>
    have h3 : (bif Nat.beq j id then (some (AEx.normal, st1) : CodeR) else some (.exit j, st1)) = some (e, st') := h2
    cases e' with
    | exit j' =>
      have he : j = j' := he
      subst he
      show if j = id then Post e sg st.H W st' .normal a' W' else Post e sg st.H W st' (.exit j) a' W'
      cases hj : Nat.beq j id with
      | true =>
        rw [hj] at h3
        cases h3
        rw [if_pos (Nat.eq_of_beq_eq_true hj)]
        exact ⟨trivial, hp⟩
      | false =>
        rw [hj] at h3
        cases h3
        rw [if_neg (fun e => by subst e; rw [Nat.beq_refl] at hj; cases hj)]
        exact ⟨rfl, hp⟩
    | normal => exact he.elim
    | goto _ => exact he.elim
    | ret => exact he.elim
    | panic _ => exact he.elim
    | outgrown => exact he.elim
theorem scope_ok (hk : RecOk P rec) {b : Code} {st st' : St} {e : AEx} (h : (rec.code none b st).bind noGoto = some (e, st')) {sg : Nat → Pl} {W : World} {a : Act} {m : Nat} (hR : R sg st.H W) (ha : ActR sg st.H.next st.S st.n st.D a) :
    (Code.scope b).wpIn (fR sg none) m P (Post e sg st.H W st') a W := by
  rw [Option.bind_eq_some_iff] at h
  obtain ⟨⟨e1, st1⟩, h1, h2⟩ := h
  refine (wpIn_wide (n := m)).2 (wp_scope_straight ((wpIn_wide (n := m)).1 (wpIn_mono (hk.code none b st e1 st1 h1 sg W a m hR ha (fun l q => by cases q)) ?_)))
  rintro e' a' W' ⟨he, hp⟩
  cases e1 with
  | normal => cases h2; cases normal_of he; exact ⟨he, hp⟩
  | goto i => cases h2
  | ret => cases h2; cases e' <;> first | exact he.elim | exact ⟨he, hp⟩
  | exit i => cases h2; cases e' <;> first | exact he.elim | exact ⟨he, hp⟩
theorem cond_ok (hk : RecOk P rec) {rd : Option Nat} {x : Operand} {c d : Code} {st st' : St} {e : AEx} (h : (opval st.S x).bind (condV rec rd c d st) = some (e, st')) {sg : Nat → Pl} {W : World} {a : Act} {m : Nat} (hR : R sg st.H W) (ha : ActR sg st.H.next st.S st.n st.D a) (hl : ∀ l, rd = some l → l < st.H.next) :
    (Code.cond x c d).wpIn (fR sg rd) m P (Post e sg st.H W st') a W := by
  rw [Option.bind_eq_some_iff] at h
  obtain ⟨v, h1, h2⟩ := h
  unfold condV at h2
  split at h2
  · rename_i t
    have hx : a.eval x = .bool t := (ha.slots.ops [x] x (by simp) _ h1).bool_eq
    refine wpIn_cond hx ?_
    cases t with
    | true => exact hk.code rd c st e st' h2 sg W a m hR ha hl
    | false => exact hk.code rd d st e st' h2 sg W a m hR ha hl
  · cases h2
theorem iterOf_eq {v : Value} {f : FuncId} {x y : List Value} (h : iterOf v = some (f, x, y)) : ∃ a b, v = .func (.func f) a b ∧ x = a.toList ∧ y = b.toList := by
  unfold iterOf at h
  split at h
  · rename_i g a b; cases h; exact ⟨a, b, rfl, rfl, rfl⟩
  · cases h
/-- The loop's record is laid. -/
theorem enter_ok {fn : FuncId} {rd : Option Nat} {ps : Array Tmp} {asg body : Code} {st : St} {d : Nat} {mk : List Nat} {H1 H2 : ASt} (h : loopBook st.H rd = some (d, mk, H1)) (h' : anewObj H1 (.loop .ready none st.S st.n ps.toList asg body d) = some H2)
    {sg : Nat → Pl} {W : World} {a : Act} (hR : R sg st.H W) (ha : ActR sg st.H.next st.S st.n st.D a) (hl : ∀ l, rd = some l → l < st.H.next) :
    ∃ sg' W' mark, (Instr.enterLoop fn a.tmps ps asg body (fR sg rd).round).run P W = .ok ((sg' H1.next).1, mark) W' ∧ R sg' H2 W' ∧ Fr sg st.H W sg' H2 W' ∧ H1.next < H2.next ∧
      ActR sg' H2.next st.S st.n (mk ++ st.D) { a with defers := mark ++ a.defers } := by
  cases rd with
  | none =>
    have h0 : (anewObj st.H (.deferred true)).ob (fun H1 => some (st.H.next, [st.H.next], H1)) = some (d, mk, H1) := h
    simp only [Option.ob_eq, Option.bind_eq_some_iff] at h0
    obtain ⟨H0, h1, h2⟩ := h0
    cases h2
    obtain ⟨r1, r2, r3, r4⟩ := hR.newObj h1 (o' := .deferred (some [])) (OR.deferred true)
    have ha1 := ha.ext r2.ext r2.next
    have hself : (tell sg st.H.next ⟨W.heap.size, 0, 0, 0⟩ st.H.next).1 = W.heap.size := by simp [tell]
    obtain ⟨q1, q2, q3, q4⟩ := r1.newObj h' (o' := .loop { state := .ready, pending := none, fn, tmps := a.tmps, params := ps, assign := asg, body, defers := W.heap.size })
      (OR.loop { state := .ready, pending := none, fn, tmps := a.tmps, params := ps, assign := asg, body, defers := W.heap.size } st.S st.n st.H.next ha1.slots ⟨by rw [r3]; exact Nat.lt_succ_self _, hself.symm⟩)
    have ha2 := ha1.ext q2.ext q2.next
    refine ⟨_, _, [{ target := .collected W.heap.size, args := #[] }], ?_, q1, r2.trans q2, by rw [q3]; exact Nat.lt_succ_self _, ⟨ha2.slots, ha2.small, ?_, ?_⟩⟩
    · have e : (tell (tell sg st.H.next ⟨W.heap.size, 0, 0, 0⟩) H1.next ⟨(W.alloc (.deferred (some []))).heap.size, 0, 0, 0⟩ H1.next).1 = W.heap.size + 1 := by
        simp [tell]
      rw [e]
      exact run_enterLoop_outer fn a.tmps ps asg body
    · show [_] ++ a.defers = List.map _ (st.H.next :: st.D)
      rw [List.map_cons, ha2.marks]
      have e2 : (tell (tell sg st.H.next ⟨W.heap.size, 0, 0, 0⟩) H1.next ⟨(W.alloc (.deferred (some []))).heap.size, 0, 0, 0⟩ st.H.next).1 = W.heap.size := by
        rw [tell_ext _ H1.next _ st.H.next (by rw [r3]; exact Nat.lt_succ_self _), hself]
      rw [e2]
      rfl
    · intro x hx
      rcases List.mem_append.1 hx with hx | hx
      · have : x = st.H.next := by simpa using hx
        subst this
        rw [q3, r3]; omega
      · exact ha2.low x hx
  | some l0 =>
    unfold loopBook at h
    simp only at h
    split at h
    case h_2 => cases h
    rename_i ls pend S0 n0 ps0 asg0 body0 d0 hob
    cases h
    obtain ⟨o', ho, hor⟩ := hR.obj l0 _ hob
    cases hor with
    | loop r0 _ _ _ k5 k9 =>
      obtain ⟨q1, q2, q3, q4⟩ := hR.newObj h' (o' := .loop { state := .ready, pending := none, fn, tmps := a.tmps, params := ps, assign := asg, body, defers := r0.defers })
        (OR.loop { state := .ready, pending := none, fn, tmps := a.tmps, params := ps, assign := asg, body, defers := r0.defers } st.S st.n _ ha.slots k9)
      have ha2 := ha.ext q2.ext q2.next
      refine ⟨_, _, [], ?_, q1, q2, by rw [q3]; exact Nat.lt_succ_self _, ?_⟩
      · have e : (tell sg st.H.next ⟨W.heap.size, 0, 0, 0⟩ st.H.next).1 = W.heap.size := by simp [tell]
        rw [e]
        exact run_enterLoop_inner ho fn a.tmps ps asg body
      · exact ha2
theorem endLoopA_eq {rd : Option Nat} {st : St} {mk : List Nat} {l : Nat} {H3 : ASt} {o : Option AO} {e : AEx} {st' : St} (h : endLoopA rec rd st mk l H3 o = some (e, st')) :
    ∃ ls pend S n ps asg body d, o = some (.obj (.loop ls pend S n ps asg body d)) ∧ ls ≠ .busy ∧ afterLoop rec rd ⟨st.S, st.n, mk ++ st.D, aobj H3 l (.loop .exhausted pend S n ps asg body d)⟩ pend = some (e, st') := by
  unfold endLoopA at h
  split at h
  · rename_i ls pend S n ps asg body d
    refine ⟨ls, pend, S, n, ps, asg, body, d, rfl, ?_, ?_⟩
    · intro e
      subst e
      cases h
    · cases ls <;> first | exact h | cases h
  · cases h
theorem range_ok (hk : RecOk P rec) {rd : Option Nat} {g : Operand} {ps : Array Tmp} {asg body : Code} {st st' : St} {e : AEx} (h : cRange g ps asg body P rec rd st = some (e, st')) {sg : Nat → Pl} {W : World} {a : Act} {m : Nat} (hR : R sg st.H W) (ha : ActR sg st.H.next st.S st.n st.D a) (hl : ∀ l, rd = some l → l < st.H.next) :
    (Code.rangeFunc g ps asg body).wpIn (fR sg rd) m P (Post e sg st.H W st') a W := by
  unfold cRange at h
  simp only [Option.ob_eq, Option.bind_eq_some_iff] at h
  obtain ⟨⟨d, mk, H1⟩, h1, H2, h2, v, h3, ⟨f, x, y⟩, h4, ⟨u, H3⟩, h5, h6⟩ := h
  obtain ⟨fa, ca, rfl, rfl, rfl⟩ := iterOf_eq h4
  refine wpIn_rangeFunc fun fn _ => ?_
  obtain ⟨sg2, W2, mark, r1, r2, r3, r4, r5⟩ := enter_ok (P := P) (fn := fn) h1 h2 hR ha hl
  have hg : VR sg2 H2.next (.func (.func f) fa ca) (a.eval g) := r5.slots.ops (a := { a with defers := mark ++ a.defers }) [g] g (by simp) _ h3
  obtain ⟨c1, c2⟩ := hk.call _ _ _ _ _ h5
  generalize hge : a.eval g = gv at hg
  cases hg with
  | func _ _ _ f' c' hfn k1 k2 k3 k4 =>
    have hargs : LR sg2 H2.next (fa.toList ++ (Value.func (.yield H1.next) #[] #[] :: ca.toList)) ((f' ++ #[Value.func (.yield (sg2 H1.next).1) #[] #[]]) ++ c').toList := by
      have := LR.append (sg := sg2) (N := H2.next) (l := fa.toList) (l' := f'.toList) ⟨by simpa using k1, fun i v v' a b => k3 i v v' (by simpa using a) (by simpa using b)⟩
        (LR.cons (l := ca.toList) (l' := c'.toList) (VR.yield H1.next r4) ⟨by simpa using k2, fun i v v' a b => k4 i v v' (by simpa using a) (by simpa using b)⟩)
      simpa using this
    refine ⟨(sg2 H1.next).1, mark, W2, { target := .fn (.func f) c', args := f' ++ #[Value.func (.yield (sg2 H1.next).1) #[] #[]] }, W2, f, (f' ++ #[Value.func (.yield (sg2 H1.next).1) #[] #[]]) ++ c', W2, r1, ?_, fun f' _ => trivial, c1 ((f' ++ #[Value.func (.yield (sg2 H1.next).1) #[] #[]]) ++ c') W2, fun h => (by cases h), ?_⟩
    · have hm : (#[Operand.const (Value.func (.yield (sg2 H1.next).1) #[] #[])] : Array Operand).map a.eval = #[Value.func (.yield (sg2 H1.next).1) #[] #[]] := by simp [Act.eval]
      simp only [resolve, hm, hge]
      rfl
    · refine callsIn_fw ((c2 sg2 W2 _ r2 hargs).mono ?_)
      rintro e' W3 ⟨v', sg3, rfl, q1, q2, q3⟩
      obtain ⟨ls, pend, S, n, ps', asg', body', d', hob, hls, haf⟩ := endLoopA_eq h6
      obtain ⟨o', ho, hor⟩ := q1.obj H1.next _ hob
      have hsl : (sg3 H1.next).1 = (sg2 H1.next).1 := by rw [q2.ext H1.next r4]
      cases hor with
      | loop r0 _ _ _ k5 k9 =>
        have hset := q1.setObj hob (o2 := .loop .exhausted r0.pending S n r0.params.toList r0.assign r0.body d') (o2' := .loop { r0 with state := .exhausted }) (OR.loop { r0 with state := .exhausted } S n d' k5 k9)
        have hend := run_endLoop (P := P) ho hls
        rw [hsl] at hend hset
        have hfr := (r3.trans q2).trans hset.2
        have hact : ActR sg3 (aobj H3 H1.next (.loop .exhausted r0.pending S n r0.params.toList r0.assign r0.body d')).next st.S st.n (mk ++ st.D) { a with defers := mark ++ a.defers } := r5.ext q2.ext q2.next
        refine ⟨r0.pending, _, hend, ?_⟩
        cases hp : r0.pending with
        | none =>
          rw [hp] at haf
          cases haf
          refine ⟨trivial, sg3, ?_, ?_, ?_⟩
          · have := hset.1; rw [hp] at this; exact this
          · have := hfr; rw [hp] at this; exact this
          · exact hact
        | some c =>
          rw [hp] at haf
          have hl3 : ∀ l, rd = some l → l < H3.next := fun l q => Nat.lt_of_lt_of_le (hl l q) (Nat.le_trans r3.next q2.next)
          have hcode := hk.code rd c _ e st' haf sg3 (W3.putObj (sg2 H1.next).1 (.loop { state := .exhausted, pending := some c, fn := r0.fn, tmps := r0.tmps, params := r0.params, assign := r0.assign, body := r0.body, defers := r0.defers })) { a with defers := mark ++ a.defers } m (by have := hset.1; rw [hp] at this; exact this) (by have := hact; rw [hp] at this; exact this) hl3
          rw [fR_ext (r3.trans q2).ext hl] at hcode
          have hfr' := hfr
          rw [hp] at hfr'
          exact wpIn_mono hcode (Post.from' hfr')
/-- THE LAW OF THE STATEMENTS. -/
theorem stepCode_ok (hk : RecOk P rec) (hdr : DrawnOk P rec) : CodeOk P (stepCode P rec) ∧ LoopOk P (stepCode P rec) := by
  have hloop : LoopOk P (stepCode P rec) := fun rd b st e st' h => by
    have h' : (rec.code rd b st).ob (goOn (rec.code rd (.loop b))) = some (e, st') := h
    rw [Option.ob_eq] at h'
    exact loop_ok hk h'
  refine ⟨fun rd c st e st' h sg W a m hR ha hl => ?_, hloop⟩
  cases c with
  | skip => cases h; exact wpIn_skip ⟨trivial, sg, hR, Fr.refl _ _ _, ha⟩
  | label l => cases h; exact wpIn_label ⟨trivial, sg, hR, Fr.refl _ _ _, ha⟩
  | exit id => cases h; exact wpIn_exit ⟨rfl, sg, hR, Fr.refl _ _ _, ha⟩
  | ret => cases h; exact wpIn_ret ⟨trivial, sg, hR, Fr.refl _ _ _, ha⟩
  | goto l => cases h
  | refuse s => cases h
  | region id ops d =>
    have h' : (bif d then drawn P rec ops.toList st.n st.S st.H else runOps P rec ops.toList st.n ops.toList st.S st.H).ob (fun p => some (.normal, withH st p)) = some (e, st') := h
    simp only [Option.ob_eq, Option.bind_eq_some_iff] at h'
    obtain ⟨⟨S1, H1⟩, h1, h2⟩ := h'
    cases h2
    cases d with
    | true => exact hdr ops id st.n st.S S1 st.H H1 h1 st.D sg W a _ m _ hR ha (fun a' W' sg' q1 q2 q3 => ⟨trivial, sg', q1, q2, q3⟩)
    | false => exact region_ok hk.call hk.round h1 hR ha (fun a' W' sg' q1 q2 q3 => ⟨trivial, sg', q1, q2, q3⟩)
  | seq x y =>
    have h' : (rec.code rd x st).ob (goOn (rec.code rd y)) = some (e, st') := h
    rw [Option.ob_eq] at h'
    exact seq_ok hk (b := .skip) h' hR ha hl
  | cond x c d =>
    have h' : (opval st.S x).ob (condV rec rd c d st) = some (e, st') := h
    rw [Option.ob_eq] at h'
    exact cond_ok hk h' hR ha hl
  | block id b =>
    have h' : (rec.code rd b st).ob (outOf id) = some (e, st') := h
    rw [Option.ob_eq] at h'
    exact block_ok hk h' hR ha hl
  | scope b =>
    cases rd with
    | some l => cases h
    | none =>
      have h' : (rec.code none b st).ob noGoto = some (e, st') := h
      rw [Option.ob_eq] at h'
      exact scope_ok hk h' hR ha
  | loop b =>
    obtain ⟨j, hj⟩ := hloop rd b st e st' h
    exact wpIn_loop_rounds j (hj sg W a m hR ha hl)
  | rangeFunc g ps asg body => exact range_ok hk h hR ha hl
end
end
end Go.Proofs.YtgdlpgakhhebeaaGreatDoor.Ev
end
section
set_option linter.unusedVariables false
namespace Go.Proofs.YtgdlpgakhhebeaaGreatDoor.Ev
open Go
noncomputable section
section
variable {P : Program} {rec : Rec}
theorem load_reads {sg : Nat → Pl} {H : ASt} {W : World} (hR : R sg H W) {t : TypeId} {a a' v : Value} (ha : VR sg H.next a a') (h : aloadAt P t a H = some v) : ∃ p v', a' = .pointer (some p) ∧ (loadVar t p).run P W = .ok v' W ∧ VR sg H.next v v' := by
  unfold aloadAt at h
  simp only [Option.ob_eq, Option.bind_eq_some_iff] at h
  obtain ⟨p, h1, d, h2, k, h3, h4⟩ := h
  obtain ⟨i, hi, rfl⟩ := sizeP_eq h3
  have := ptrOf_eq h1
  subst this
  obtain ⟨hb, rfl⟩ := ha.ptr_eq
  unfold aloadVar at h4
  cases hg : isAggD d with
  | true =>
    rw [hg, cond_true] at h4
    split at h4
    case h_2 => cases h4
    rename_i l hl
    cases h4
    obtain ⟨q1, l', q2, q3, _⟩ := aloads_run (P := P) hR hl
    refine ⟨_, .agg l'.toArray, rfl, ?_, agg_of q3⟩
    cases d <;> simp [isAggD] at hg <;> simp [loadVar, isAgg, run_underlying h2, sizeOf, typeInfo, hi, q2]
  | false =>
    rw [hg, cond_false] at h4
    obtain ⟨v', q1, q2, _⟩ := aload_cell hR (a := ⟨p.1, p.2, none⟩) rfl h4
    refine ⟨_, v', rfl, ?_, q2⟩
    cases d <;> simp [isAggD] at hg <;> simp [loadVar, isAgg, run_underlying h2, load, Sem.run, q1]
/-- One result. -/
def resSem (tmps : Array Value) : ResultVar → Sem Value
  | .tmp t => pure (tmps.getD t undef)
  | .cell a t => do loadVar t (← asAddr (tmps.getD a undef))
theorem results_list {sg : Nat → Pl} {H : ASt} {W : World} (hR : R sg H W) {S : T Value} {n : Nat} {a : Array Value} (hs : SR sg H.next S n a) : ∀ (xs : List ResultVar) (l : List Value), resultsOf P S H xs = some l →
    ∃ l', (xs.mapM (resSem a)).run P W = .ok l' W ∧ LR sg H.next l l'
  | [], l, h => by cases h; exact ⟨[], by simp, LR.nil _ _⟩
  | x :: xs, l, h => by
    unfold resultsOf at h
    simp only [Option.ob_eq, Option.bind_eq_some_iff] at h
    obtain ⟨v, h1, k, h2, h3⟩ := h
    cases h3
    obtain ⟨l', q1, q2⟩ := results_list hR hs xs k h2
    obtain ⟨v', q3, q4⟩ : ∃ v', (resSem a x).run P W = .ok v' W ∧ VR sg H.next v v' := by
      cases x with
      | tmp t => cases h1; exact ⟨_, rfl, getS_VR hs t⟩
      | cell p t =>
        obtain ⟨q, v', e1, e2, e3⟩ := load_reads hR (getS_VR hs p) h1
        refine ⟨v', ?_, e3⟩
        show (asAddr (a.getD p undef) >>= fun x => loadVar t x).run P W = _
        rw [e1]
        exact e2
    refine ⟨v' :: l', ?_, LR.cons q4 q2⟩
    simp [List.mapM_cons, q3, q1]
theorem results_ok {sg : Nat → Pl} {H : ASt} {W : World} (hR : R sg H W) {S : T Value} {n : Nat} {a : Array Value} (hs : SR sg H.next S n a) (fn : Func) {l : List Value} (h : resultsOf P S H fn.results.toList = some l) :
    ∃ v', (results fn a).run P W = .ok v' W ∧ VR sg H.next (oneOrMore l) v' := by
  obtain ⟨l', q1, q2⟩ := results_list (P := P) hR hs _ _ h
  have hm : (fn.results.mapM (resSem a)).run P W = .ok l'.toArray W := by
    rw [Array.mapM_eq_mapM_toList]
    simp [q1]
  have hrun : ∀ v', (if h : l'.toArray.size = 1 then l'.toArray[0] else Value.tuple l'.toArray) = v' → (results fn a).run P W = .ok v' W := fun v' e => by
    subst e
    show (fn.results.mapM (resSem a) >>= fun vs => pure (if h : vs.size = 1 then vs[0] else Value.tuple vs)).run P W = _
    rw [Sem.run_bind, hm]
    rfl
  refine ⟨_, hrun _ rfl, ?_⟩
  match l, l', q2 with
  | [v], [v'], q2 => exact q2.2 0 v v' rfl rfl
  | [], [], q2 => exact .tuple _ _ rfl (fun i u u' p => by simp at p)
  | [], _ :: _, q2 => have := q2.1; simp at this
  | _ :: _, [], q2 => have := q2.1; simp at this
  | [_], _ :: _ :: _, q2 => have := q2.1; simp at this
  | _ :: _ :: _, [_], q2 => have := q2.1; simp at this
  | x :: y :: l, x' :: y' :: l', q2 =>
    have e : (if h : (x' :: y' :: l').toArray.size = 1 then (x' :: y' :: l').toArray[0] else Value.tuple (x' :: y' :: l').toArray) = Value.tuple (x' :: y' :: l').toArray := by simp
    rw [e]
    exact .tuple _ _ (LR_arr q2).1 (LR_arr q2).2
theorem leaves_ok {fn : Func} {tmps : Array Value} {Rr : Ending → World → Prop} {sg : Nat → Pl} {m : Nat} : ∀ (D : List Nat) (H H' : ASt) (W : World), takeMarks D H = some H' → R sg H W →
    (∀ W', R sg H' W' → Fr sg H W sg H' W' → ∃ v, (results fn tmps).run P W' = .ok v W' ∧ Rr (.returned v) W') →
    LeavesInM Fence.wide m P fn tmps Rr (D.map fun d => ({ target := .collected (sg d).1, args := #[] } : Deferred)) .returning W
  | [], H, H', W, h, hR, hk => by cases h; exact hk W hR (Fr.refl _ _ _)
  | d :: D, H, H', W, h, hR, hk => by
    unfold takeMarks at h
    split at h
    case h_2 => cases h
    rename_i hob
    obtain ⟨o', ho, hor⟩ := hR.obj d _ hob
    have ho' : o' = .deferred (some []) := by
      generalize hq : AObj.deferred true = q at hor
      cases hor with
      | deferred o => cases hq; rfl
      | map _ _ _ _ _ => cases hq
      | loop _ _ _ _ _ _ => cases hq
    subst ho'
    have hset := hR.setObj hob (o2 := .deferred false) (o2' := .deferred none) (OR.deferred false)
    exact ⟨by simp, .inl ⟨_, _, rfl, run_takeDeferred ho, leaves_ok D (aobj H d (.deferred false)) H' _ h hset.1 (fun W' r1 r2 => hk W' r1 (hset.2.trans r2))⟩⟩
theorem takeMarks_next : ∀ (D : List Nat) (H H' : ASt), takeMarks D H = some H' → H'.next = H.next
  | [], H, H', h => by cases h; rfl
  | d :: D, H, H', h => by
    unfold takeMarks at h
    split at h
    case h_2 => cases h
    exact takeMarks_next D (aobj H d (.deferred false)) H' h
theorem enter_SR {sg : Nat → Pl} {N : Nat} {args : List Value} {args' : Array Value} (h : LR sg N args args'.toList) (hs : args.length < 1000000000000) (k : Nat) : SR sg N (T.ofL args) (args.length + (k - args.length)) (args' ++ Array.replicate (k - args'.size) undef) := by
  have hl : args'.size = args.length := by have := h.1; simp at this; omega
  refine ⟨by simp [hl], fun t ht => ?_, fun t v' hv => ?_⟩
  · rw [T.get_ofL _ _ hs]
    exact List.getElem?_eq_none (by omega)
  · rw [T.get_ofL _ _ hs]
    rcases Nat.lt_or_ge t args.length with ht | ht
    · rw [Array.getElem?_append_left (by omega)] at hv
      rw [List.getElem?_eq_getElem ht]
      exact h.2 t _ _ (List.getElem?_eq_getElem ht) (by simpa using hv)
    · rw [Array.getElem?_append_right (by omega)] at hv
      rw [List.getElem?_eq_none ht]
      have : v' = undef := by
        rw [Array.getElem?_replicate] at hv
        split at hv
        · exact (Option.some.inj hv).symm
        · cases hv
      subst this
      exact undef_VR
theorem callFunc_enter {f : FuncId} {fn : Func} {c : Code} (hf : P.funcs[f]? = some fn) (hb : fn.body = some c) (hn : notNG fn = true) (args : Array Value) (W : World) : (callFunc f args).run P W = .ok (.enter f args) W := by
  have hn' : (fn.name == "runtime.NumGoroutine") = false := by simpa [notNG] using hn
  simp [callFunc, hf, hb]
  intro e
  rw [e] at hn'
  simp at hn'
/-- A law of its own. -/
def ExtOk (P : Program) (ext : Outer) : Prop := ∀ f g, ext f = some g → CallOk P (fun f' args H => if f' = f then g args H else none)
theorem stepCall_ok (hk : RecOk P rec) {ext : Outer} (he : ExtOk P ext) : CallOk P (stepCall P ext rec) := fun f args H v H' h => by
  unfold stepCall at h
  split at h
  · rename_i g hg
    have := he f g hg f args H v H' (by simpa using h)
    exact this
  · simp only [Option.ob_eq, Option.bind_eq_some_iff] at h
    obtain ⟨fn, hf, h1⟩ := h
    unfold stepFn at h1
    cases hc : (notNG fn && Nat.blt (Nat.add args.length fn.ntmps) 1000000) with
    | false => rw [hc] at h1; cases h1
    | true =>
    rw [hc, cond_true] at h1
    rw [Bool.and_eq_true, Nat.blt_eq, Nat.add_eq] at hc
    obtain ⟨hng, hsm⟩ := hc
    simp only [Option.ob_eq, Option.bind_eq_some_iff] at h1
    obtain ⟨c, hb, h2⟩ := h1
    refine ⟨fun args' W => callFunc_enter hf hb hng args' W, fun sg W args' hR hargs => ?_⟩
    unfold enterFn at h2
    simp only [Option.ob_eq, Option.bind_eq_some_iff, Nat.add_eq, Nat.sub_eq] at h2
    obtain ⟨⟨e, st1⟩, h3, h4⟩ := h2
    have hres : resultIn P fn st1 = some (v, H') ∧ (e = .normal ∨ e = .ret) := by
      unfold leaveFn at h4
      cases e with
      | normal => exact ⟨h4, .inl rfl⟩
      | ret => exact ⟨h4, .inr rfl⟩
      | exit i => cases h4
      | goto i => cases h4
    obtain ⟨hres, hex⟩ := hres
    unfold resultIn at hres
    simp only [Option.ob_eq, Option.bind_eq_some_iff] at hres
    obtain ⟨H1, h5, l, h6, h7⟩ := hres
    cases h7
    refine (callsIn_wide (n := 0)).1 (callsIn_of_wp_marks hf hb trivial ?_)
    refine wpIn_mono (hk.code none c _ e st1 h3 sg W { tmps := args' ++ Array.replicate (fn.ntmps - args'.size) undef, defers := [] } 0 hR ⟨enter_SR hargs (by omega) _, by show args.length + (fn.ntmps - args.length) < _; omega, rfl, fun d hd => by cases hd⟩ (fun l q => by cases q)) ?_
    rintro e' a' W' ⟨hee, sg', r1, r2, r3⟩
    have hleave : LeavesInM Fence.wide 0 P fn a'.tmps (fun e W' => ∃ v' sg', e = .returned v' ∧ R sg' H' W' ∧ Fr sg H W sg' H' W' ∧ VR sg' H'.next (oneOrMore l) v') a'.defers .returning W' := by
      rw [r3.marks]
      refine leaves_ok st1.D st1.H H' W' h5 r1 (fun W2 q1 q2 => ?_)
      have hn := takeMarks_next _ _ _ h5
      obtain ⟨v', q3, q4⟩ := results_ok (P := P) q1 (by rw [hn]; exact r3.slots) fn h6
      exact ⟨v', q3, v', sg', rfl, q1, r2.trans q2, q4⟩
    rcases hex with rfl | rfl
    · cases e' <;> first | exact hleave | exact hee.elim
    · cases e' <;> first | exact hleave | exact hee.elim
theorem setAll_SR {sg : Nat → Pl} {N n : Nat} (hn : n < 1000000000000) : ∀ (ps : List Tmp) (vs vs' : List Value) (S : T Value) (a : Array Value), LR sg N vs vs' → ps.length = vs.length → SR sg N S n a → SR sg N (setAll ps vs n S) n ((ps.zip vs').foldl (fun t (p : Tmp × Value) => t.setIfInBounds p.1 p.2) a)
  | [], vs, vs', S, a, h, hl, hs => by cases vs <;> simpa [setAll] using hs
  | p :: ps, [], vs', S, a, h, hl, hs => by simp at hl
  | p :: ps, v :: vs, [], S, a, h, hl, hs => by have := h.1; simp at this
  | p :: ps, v :: vs, v' :: vs', S, a, h, hl, hs => by
    rw [List.zip_cons_cons, List.foldl_cons]
    show SR sg N (setAll ps vs n (putS S n (some p) v)) n _
    refine setAll_SR hn ps vs vs' _ _ ⟨by have := h.1; simpa using this, fun i u u' q q' => h.2 (i + 1) u u' q q'⟩ (by simpa using hl) ?_
    exact SR.put (a := { tmps := a, defers := [] }) hs hn (h.2 0 v v' rfl rfl) (some p)
theorem loop_inv {sg : Nat → Pl} {N : Nat} {ls : LoopState} {pend : Option Code} {S : T Value} {n : Nat} {ps : List Tmp} {asg body : Code} {d : Nat} {o' : Obj} (h : OR sg N (.loop ls pend S n ps asg body d) o') :
    ∃ r : Loop, o' = .loop r ∧ r.state = ls ∧ r.pending = pend ∧ SR sg N S n r.tmps ∧ r.params.toList = ps ∧ r.assign = asg ∧ r.body = body ∧ d < N ∧ r.defers = (sg d).1 := by
  cases h with
  | loop r _ _ _ h5 h9 => exact ⟨r, rfl, rfl, rfl, h5, rfl, rfl, rfl, h9.1, h9.2⟩
theorem OR.ofLoop {sg : Nat → Pl} {N : Nat} {r : Loop} {ls : LoopState} {pend : Option Code} {S : T Value} {n : Nat} {ps : List Tmp} {asg body : Code} {d : Nat} (h1 : r.state = ls) (h2 : r.pending = pend) (h3 : SR sg N S n r.tmps) (h4 : r.params.toList = ps) (h5 : r.assign = asg) (h6 : r.body = body) (h7 : d < N) (h8 : r.defers = (sg d).1) :
    OR sg N (.loop ls pend S n ps asg body d) (.loop r) := by
  subst h1; subst h2; subst h4; subst h5; subst h6
  exact OR.loop r S n d h3 ⟨h7, h8⟩
theorem stepRound_ok (hk : RecOk P rec) : RoundOk P (stepRound rec) := fun l args H v H' h sg W args' hR hlt hargs => by
  unfold stepRound roundIn at h
  split at h
  case h_2 => cases h
  rename_i ls pend S n ps asg body d hob
  obtain ⟨o', ho, hor⟩ := hR.obj l _ hob
  obtain ⟨r, rfl, e1, e2, e3, e4, e5, e6, e7, e8⟩ := loop_inv hor
  cases hc : Nat.beq ps.length args.length && Nat.blt n 1000000000000 with
  | false => rw [hc] at h; cases h
  | true =>
  rw [hc, cond_true] at h
  rw [Bool.and_eq_true, Nat.blt_eq] at hc
  obtain ⟨hc, hn⟩ := hc
  have hlen : ps.length = args.length := Nat.eq_of_beq_eq_true hc
  have hsz : args'.size = r.params.size := by
    have h1 := hargs.1
    simp at h1
    rw [← e4] at hlen
    simp at hlen
    omega
  simp only [Option.ob_eq, Option.bind_eq_some_iff] at h
  obtain ⟨⟨ex1, st1⟩, h1, h2⟩ := h
  have hS : SR sg H.next (setAll ps args n S) n ((r.params.zip args').foldl (fun tmps (t, a) => tmps.setIfInBounds t a) r.tmps) := by
    rw [← Array.foldl_toList, Array.toList_zip, e4]
    exact setAll_SR hn ps args args'.toList S r.tmps hargs hlen e3
  refine ⟨r.fn, _, r.assign, r.body, run_yield ho hsz, fun m => ?_⟩
  refine roundIn_of_wpIn (F := Fence.wide) trivial ?_
  rw [e5, e6]
  have hcode := hk.code (some l) asg _ ex1 st1 h1 sg W { tmps := (r.params.zip args').foldl (fun tmps (t, a) => tmps.setIfInBounds t a) r.tmps, defers := [] } m hR ⟨hS, hn, rfl, fun d hd => by cases hd⟩ (fun l' q => by cases q; exact hlt)
  refine wpIn_mono hcode ?_
  rintro e' a1 W1 ⟨hee, sg1, r1, r2, r3⟩
  unfold roundMid at h2
  cases ex1 with
  | exit i => cases h2
  | goto i => cases h2
  | ret => cases h2
  | normal =>
  cases normal_of hee
  have h3 : roundBody rec l body st1 (st1.H.heap.get l) = some (v, H') := h2
  unfold roundBody at h3
  split at h3
  case h_2 => cases h3
  rename_i ls1 pend1 S1 n1 ps1 asg1 body1 d1 hob1
  cases hc1 : isReady ls1 && st1.D.isEmpty with
  | false => rw [hc1] at h3; cases h3
  | true =>
  rw [hc1, cond_true] at h3
  rw [Bool.and_eq_true] at hc1
  obtain ⟨hrd, hD1⟩ := hc1
  have hls1 : ls1 = .ready := by cases ls1 <;> first | rfl | cases hrd
  subst hls1
  have hD1' : st1.D = [] := by simpa using hD1
  obtain ⟨o1, ho1, hor1⟩ := r1.obj l _ hob1
  obtain ⟨q, rfl, f1, f2, f3, f4, f5, f6, f7, f8⟩ := loop_inv hor1
  have hlt1 : l < st1.H.next := Nat.lt_of_lt_of_le hlt r2.next
  have hsl : (sg1 l).1 = (sg l).1 := by rw [r2.ext l hlt]
  have hset := r1.setObj hob1 (o2 := .loop .busy pend1 S1 n1 ps1 asg1 body1 d1) (o2' := .loop { q with state := .busy }) (OR.ofLoop rfl f2 f3 f4 f5 f6 f7 f8)
  have hbeg := run_beginRound (P := P) ho1 f1
  rw [hsl] at hbeg hset
  refine ⟨_, hbeg, ?_⟩
  simp only [Option.ob_eq, Option.bind_eq_some_iff] at h3
  obtain ⟨⟨ex2, st2⟩, h4, h5⟩ := h3
  have ha1 : ActR sg1 st1.H.next st1.S st1.n [] a1 := by have := r3; rw [hD1'] at this; exact this
  have hcode2 := hk.code (some l) body _ ex2 st2 h4 sg1 _ a1 m hset.1 ha1 (fun l' q => by cases q; exact hlt1)
  rw [fR_ext r2.ext (fun l' q => by cases q; exact hlt)] at hcode2
  refine wpIn_mono hcode2 ?_
  rintro e2' a2 W2 ⟨hee2, sg2, t1, t2, t3⟩
  have h6 : endRoundA st2.H l (codeOf ex2) st2.D (st2.H.heap.get l) = some (v, H') := h5
  unfold endRoundA at h6
  split at h6
  case h_2 => cases h6
  rename_i ls2 pend2 S2 n2 ps2 asg2 body2 d2 hob2
  cases hD2 : st2.D.isEmpty with
  | false => rw [hD2] at h6; cases h6
  | true =>
  rw [hD2, cond_true] at h6
  cases h6
  obtain ⟨o2, ho2, hor2⟩ := t1.obj l _ hob2
  obtain ⟨q2, rfl, g1, g2, g3, g4, g5, g6, g7, g8⟩ := loop_inv hor2
  have hsl2 : (sg2 l).1 = (sg l).1 := by rw [t2.ext l hlt1, hsl]
  have fin : ∀ j : Option Code, j = codeOf ex2 → ∃ v' W3, (Instr.endRound (sg l).1 j).run P W2 = .ok v' W3 ∧ ∃ v'' sg', Ending.returned v' = .returned v'' ∧ R sg' (aobj st2.H l (.loop (bif (codeOf ex2).isNone then .ready else .done) (codeOf ex2) S2 n2 ps2 asg2 body2 d2)) W3 ∧
      Fr sg H W sg' (aobj st2.H l (.loop (bif (codeOf ex2).isNone then .ready else .done) (codeOf ex2) S2 n2 ps2 asg2 body2 d2)) W3 ∧ VR sg' (aobj st2.H l (.loop (bif (codeOf ex2).isNone then .ready else .done) (codeOf ex2) S2 n2 ps2 asg2 body2 d2)).next (.bool (codeOf ex2).isNone) v'' := fun j hj => by
    subst hj
    have hset2 := t1.setObj hob2 (o2 := .loop (bif (codeOf ex2).isNone then .ready else .done) (codeOf ex2) S2 n2 ps2 asg2 body2 d2) (o2' := .loop { q2 with state := if (codeOf ex2).isNone then .ready else .done, pending := codeOf ex2 })
      (OR.ofLoop (by cases (codeOf ex2).isNone <;> rfl) rfl g3 g4 g5 g6 g7 g8)
    have hend := run_endRound (P := P) (codeOf ex2) ho2
    rw [hsl2] at hend hset2
    exact ⟨_, _, hend, _, sg2, rfl, hset2.1, ((r2.trans hset.2).trans t2).trans hset2.2, .bool _⟩
  cases ex2 with
  | normal => cases normal_of hee2; exact fin none rfl
  | ret => cases e2' <;> first | exact fin (some .ret) rfl | exact hee2.elim
  | exit i => cases e2' <;> first | (have h7 : i = _ := hee2; subst h7; exact fin (some (.exit i)) rfl) | exact hee2.elim
  | goto i => cases e2' <;> first | (have h7 : i = _ := hee2; subst h7; exact fin (some (.goto i)) rfl) | exact hee2.elim
theorem noRec_ok : RecOk P noRec := ⟨fun _ _ _ _ _ h => (by cases h), fun _ _ _ _ _ h => (by cases h), fun _ _ _ _ _ h => (by cases h), fun _ _ _ _ _ h => (by cases h)⟩
theorem stepRec_ok (hk : RecOk P rec) {ext : Outer} (he : ExtOk P ext) (hdr : DrawnOk P rec) : RecOk P (stepRec P ext rec) :=
  ⟨(stepCode_ok hk hdr).1, (stepCode_ok hk hdr).2, stepCall_ok hk he, stepRound_ok hk⟩
end
end
end Go.Proofs.YtgdlpgakhhebeaaGreatDoor.Ev
end
