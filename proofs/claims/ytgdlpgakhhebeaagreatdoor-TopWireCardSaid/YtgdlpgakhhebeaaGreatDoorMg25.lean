/- Part 25 of the proof of TopWire: Evh, Evs, Evn, Eva. -/
import Derived.ArgAppend
import Derived.Laws.Cells
import Derived.Laws.CopyRow
import Derived.Test.YtgdlpgakhhebeaaGreatDoorMg24
section
set_option linter.unusedVariables false
namespace Go.Proofs.YtgdlpgakhhebeaaGreatDoor.Ev
open Go
noncomputable section

/-- A row of cells: how many, which, of what type, of what family (rows of one family may share memory). -/
structure Blk where
  n : Nat
  cs : T Value
  elem : TypeId
  grp : Nat
  stride : Nat
/-- An object that is no row of cells: a map (key, value, birth), a loop over a function, a block for deferred calls (is it open?). -/
inductive AObj where
  | map (es : List (Value × Value × Nat)) (clock : Nat)
  | loop (state : LoopState) (pending : Option Code) (S : T Value) (n : Nat) (params : List Tmp) (assign body : Code) (defers : Nat)
  | deferred (o : Bool)
inductive AO where
  | cells (b : Blk)
  | obj (o : AObj)
/-- An abstract world. -/
structure ASt where
  heap : T AO
  /-- The rows of a family that are known. -/
  mem : T (List Nat)
  next : Nat

/-- What temporaries stand for; those that are not told are undef. -/
def SR (sg : Nat → Pl) (N : Nat) (S : T Value) (n : Nat) (a : Array Value) : Prop :=
  a.size = n ∧ (∀ t, n ≤ t → S.get t = none) ∧ ∀ (t : Nat) (v' : Value), a[t]? = some v' → VR sg N (match S.get t with | some v => v | none => undef) v'
theorem SR.ext {sg sg' : Nat → Pl} {N N' : Nat} {S : T Value} {n : Nat} {a : Array Value} (h : SR sg N S n a) (he : Ext N sg sg') (hN : N ≤ N') : SR sg' N' S n a :=
  ⟨h.1, h.2.1, fun t v' q => (h.2.2 t v' q).ext he hN⟩
/-- What an object that is no row of cells stands for. -/
inductive OR (sg : Nat → Pl) (N : Nat) : AObj → Obj → Prop
  | map (es : List (Value × Value × Nat)) (es' : Array MapEntry) (clock : Nat) (h1 : es.length = es'.size) (h : ∀ (i : Nat) (e : Value × Value × Nat) (e' : MapEntry), es[i]? = some e → es'[i]? = some e' → bare 9 e.1 = true ∧ e'.key = e.1 ∧ VR sg N e.2.1 e'.val ∧ e.2.2 = e'.born) : OR sg N (.map es clock) (.map es' clock)
  | loop (l : Loop) (S : T Value) (n d : Nat) (h5 : SR sg N S n l.tmps) (h9 : d < N ∧ l.defers = (sg d).1) : OR sg N (.loop l.state l.pending S n l.params.toList l.assign l.body d) (.loop l)
  | deferred (o : Bool) : OR sg N (.deferred o) (.deferred (bif o then some [] else none))
theorem OR.ext {sg sg' : Nat → Pl} {N N' : Nat} {o : AObj} {o' : Obj} (h : OR sg N o o') (he : Ext N sg sg') (hN : N ≤ N') : OR sg' N' o o' := by
  cases h with
  | map es es' clock h1 h => exact .map es es' clock h1 (fun i e e' q q' => ⟨(h i e e' q q').1, (h i e e' q q').2.1, (h i e e' q q').2.2.1.ext he hN, (h i e e' q q').2.2.2⟩)
  | loop l S n d h5 h9 => exact .loop l S n d (h5.ext he hN) ⟨Nat.lt_of_lt_of_le h9.1 hN, by rw [he _ h9.1]; exact h9.2⟩
  | deferred o => exact .deferred o
theorem OR.notCells {sg : Nat → Pl} {N : Nat} {o : AObj} {o' : Obj} (h : OR sg N o o') : (∀ c t f, o' ≠ .cells c t f) := by
  cases h <;> exact fun _ _ _ h => (by cases h)

/-- The cells of a block stand for what lies at a place. -/
def BR (sg : Nat → Pl) (N : Nat) (B : Blk) (off : Nat) (C : Array Value) : Prop :=
  ∀ i, i < B.n → ∃ v v', B.cs.get i = some v ∧ C[off + i]? = some v' ∧ VR sg N v v'
/-- A row of cells lies in block k; none of its cells is frozen. -/
def Row (W : World) (k : Nat) (C : Array Value) (_e : TypeId) : Prop := ∃ e fz, W.heap[k]? = some (.cells C e fz) ∧ ∀ i, i < C.size → (decide (fz.1 ≤ i) && decide (i < fz.2)) = false
theorem Row.of {W : World} {k : Nat} {C : Array Value} {e e' : TypeId} (h : W.heap[k]? = some (.cells C e (0, 0))) : Row W k C e' := ⟨e, (0, 0), h, fun i _ => by simp⟩
theorem Row.cell {W : World} {k : Nat} {C : Array Value} {e : TypeId} (h : Row W k C e) (o : Nat) : W.cell? ⟨k, o, none⟩ = C[o]? := by
  obtain ⟨_, fz, h, _⟩ := h
  simp [World.cell?, h]
theorem Row.frozen {W : World} {k : Nat} {C : Array Value} {e : TypeId} (h : Row W k C e) {o : Nat} (ho : o < C.size) : W.frozen? ⟨k, o, none⟩ = false := by
  obtain ⟨_, fz, h, hz⟩ := h
  have := hz o ho
  simp only [World.frozen?, h]
  exact this
theorem Row.inj {W : World} {k : Nat} {C C' : Array Value} {e e' : TypeId} (h : Row W k C e) (h' : Row W k C' e') : C = C' ∧ True := by
  obtain ⟨_, fz, h, _⟩ := h
  obtain ⟨_, fz', h', _⟩ := h'
  rw [h] at h'
  cases h'
  exact ⟨rfl, trivial⟩
theorem Row.lt {W : World} {k : Nat} {C : Array Value} {e : TypeId} (h : Row W k C e) : k < W.heap.size := by
  obtain ⟨_, fz, h, _⟩ := h
  exact (Array.getElem?_eq_some_iff.1 h).1
theorem Row.congr {W W' : World} {k : Nat} {C : Array Value} {e : TypeId} (h : Row W k C e) (hk : W'.heap[k]? = W.heap[k]?) : Row W' k C e := by
  obtain ⟨e', fz, h, hz⟩ := h
  exact ⟨e', fz, hk.trans h, hz⟩
/-- THE RELATION. -/
structure R (sg : Nat → Pl) (H : ASt) (W : World) : Prop where
  pos : 0 < H.next
  lt : ∀ b o, H.heap.get b = some o → 0 < b ∧ b < H.next
  big : H.next < 1000000000000
  cells : ∀ b B, H.heap.get b = some (.cells B) → ∃ C, Row W (sg b).1 C B.elem ∧ BR sg H.next B (sg b).2 C
  obj : ∀ b o, H.heap.get b = some (.obj o) → ∃ o', W.heap[(sg b).1]? = some o' ∧ OR sg H.next o o'
  kin : ∀ b B, H.heap.get b = some (.cells B) → B.grp < H.next ∧ B.n < 1000000000000 ∧ ∃ l, H.mem.get B.grp = some l ∧ b ∈ l
  apart : ∀ b b' B B', H.heap.get b = some (.cells B) → H.heap.get b' = some (.cells B') → (sg b).1 = (sg b').1 → B.grp = B'.grp
  alone : ∀ b b' o o', H.heap.get b = some (.obj o) → H.heap.get b' = some (.obj o') → (sg b).1 = (sg b').1 → b = b'
  room : ∀ b B, H.heap.get b = some (.cells B) → ∃ C, Row W (sg b).1 C B.elem ∧ C.size = (sg b).3 ∧ B.stride = (sg b).4
/-- What a run leaves. -/
structure Fr (sg : Nat → Pl) (H : ASt) (W : World) (sg' : Nat → Pl) (H' : ASt) (W' : World) : Prop where
  ext : Ext H.next sg sg'
  next : H.next ≤ H'.next
  os : W'.os = W.os
  output : W'.output = W.output
  tape : W'.tape = W.tape
  size : W.heap.size ≤ W'.heap.size
  same : ∀ k, k < W.heap.size → (∀ b o, H.heap.get b = some o → (sg b).1 ≠ k) → W'.heap[k]? = W.heap[k]?
  dom : ∀ b o, H'.heap.get b = some o → (∃ b0 o0, H.heap.get b0 = some o0 ∧ (sg b0).1 = (sg' b).1) ∨ W.heap.size ≤ (sg' b).1
theorem Fr.refl (sg : Nat → Pl) (H : ASt) (W : World) : Fr sg H W sg H W :=
  ⟨Ext.refl _ _, Nat.le_refl _, rfl, rfl, rfl, Nat.le_refl _, fun _ _ _ => rfl, fun b o h => .inl ⟨b, o, h, rfl⟩⟩
theorem Fr.trans {sg sg' sg'' : Nat → Pl} {H H' H'' : ASt} {W W' W'' : World} (h : Fr sg H W sg' H' W') (k : Fr sg' H' W' sg'' H'' W'') : Fr sg H W sg'' H'' W'' where
  ext := h.ext.trans k.ext h.next
  next := Nat.le_trans h.next k.next
  os := k.os.trans h.os
  output := k.output.trans h.output
  tape := k.tape.trans h.tape
  size := Nat.le_trans h.size k.size
  same := fun x hx hn => by
    refine (k.same x (Nat.lt_of_lt_of_le hx h.size) (fun b o hb e => ?_)).trans (h.same x hx hn)
    rcases h.dom b o hb with ⟨b0, o0, h0, h1⟩ | h1
    · exact hn b0 o0 h0 (h1.trans e)
    · omega
  dom := fun b o hb => by
    rcases k.dom b o hb with ⟨b0, o0, h0, h1⟩ | h1
    · rcases h.dom b0 o0 h0 with ⟨b1, o1, h2, h3⟩ | h2
      · exact .inl ⟨b1, o1, h2, h3.trans h1⟩
      · exact .inr (by omega)
    · exact .inr (Nat.le_trans h.size h1)

/-- A cell of an abstract world. -/
def aload (H : ASt) (a : Addr) : Option Value :=
  match a.spot with
  | some _ => none
  | none => match H.heap.get a.block with
    | some (.cells B) => bif Nat.blt a.off B.n then B.cs.get a.off else none
    | _ => none
def oneCell : Value → Bool
  | .agg _ | .tuple _ => false
  | _ => true
end
end Go.Proofs.YtgdlpgakhhebeaaGreatDoor.Ev
end
section
set_option linter.unusedVariables false
namespace Go.Proofs.YtgdlpgakhhebeaaGreatDoor.Ev
open Go
noncomputable section

/-- What an address stands for. -/
def addrR (sg : Nat → Pl) (a a' : Addr) : Prop := a' = ⟨(sg a.block).1, (sg a.block).2 + a.off, none⟩
theorem aload_cell {sg : Nat → Pl} {H : ASt} {W : World} (hR : R sg H W) {a a' : Addr} {v : Value} (ha : addrR sg a a') (h : aload H a = some v) :
    ∃ v', W.cell? a' = some v' ∧ VR sg H.next v v' ∧ W.frozen? a' = false := by
  obtain ⟨b, off, spot⟩ := a
  cases ha
  unfold aload at h
  cases spot with
  | some x => simp at h
  | none =>
    simp only at h
    split at h
    · rename_i B hB
      cases hlt : Nat.blt off B.n with
      | false => simp [hlt] at h
      | true =>
        rw [hlt, cond_true] at h
        obtain ⟨C, hC, hb⟩ := hR.cells b B hB
        obtain ⟨u, v', h1, h2, h3⟩ := hb off (by simpa [Nat.blt_eq] using hlt)
        have : u = v := Option.some.inj (h1.symm.trans h)
        subst this
        refine ⟨v', ?_, h3, ?_⟩
        · rw [hC.cell]; exact h2
        · exact hC.frozen (Array.getElem?_eq_some_iff.1 h2).1
    · cases h

/-- Kill all of a family but one. -/
def kill (b : Nat) : List Nat → T AO → T AO
  | [], t => t
  | m :: l, t => bif m == b then kill b l t else kill b l (t.del m)
theorem get_kill (b : Nat) : ∀ (l : List Nat) (t : T AO) (x : Nat), (∀ m ∈ l, m < 1000000000000) → (kill b l t).get x = if x ∈ l ∧ x ≠ b then none else t.get x
  | [], t, x, _ => by simp [kill]
  | m :: l, t, x, h => by
    unfold kill
    have hl : ∀ m ∈ l, m < 1000000000000 := fun y hy => h y (List.mem_cons_of_mem _ hy)
    by_cases hm : m = b
    · have e : (m == b) = true := by simpa using hm
      rw [e, cond_true, get_kill b l t x hl]
      by_cases hx : x = m
      · subst hx; simp [hm]
      · simp [hx]
    · have e : (m == b) = false := by simpa using hm
      rw [e, cond_false, get_kill b l (t.del m) x hl, T.get_del _ _ _ (h m (List.mem_cons_self ..))]
      by_cases hx : x = m
      · subst hx; simp [hm]
      · simp [hx]
/-- Rows of values. -/
def LR (sg : Nat → Pl) (N : Nat) (l : List Value) (l' : List Value) : Prop := l.length = l'.length ∧ ∀ (i : Nat) (v v' : Value), l[i]? = some v → l'[i]? = some v' → VR sg N v v'
theorem LR.nil (sg : Nat → Pl) (N : Nat) : LR sg N [] [] := ⟨rfl, fun i v v' h => by cases h⟩
theorem LR.cons {sg : Nat → Pl} {N : Nat} {v v' : Value} {l l' : List Value} (h : VR sg N v v') (k : LR sg N l l') : LR sg N (v :: l) (v' :: l') :=
  ⟨by simp [k.1], fun i u u' q q' => by
    cases i with
    | zero => cases q; cases q'; exact h
    | succ i => exact k.2 i u u' q q'⟩
theorem LR.ext {sg sg' : Nat → Pl} {N N' : Nat} {l l' : List Value} (h : LR sg N l l') (he : Ext N sg sg') (hN : N ≤ N') : LR sg' N' l l' :=
  ⟨h.1, fun i v v' q q' => (h.2 i v v' q q').ext he hN⟩
theorem LR.append {sg : Nat → Pl} {N : Nat} {l l' k k' : List Value} (h : LR sg N l l') (q : LR sg N k k') : LR sg N (l ++ k) (l' ++ k') := by
  refine ⟨by simp [h.1, q.1], fun i v v' a b => ?_⟩
  rcases Nat.lt_or_ge i l.length with hi | hi
  · rw [List.getElem?_append_left hi] at a
    rw [List.getElem?_append_left (by rw [← h.1]; exact hi)] at b
    exact h.2 i v v' a b
  · rw [List.getElem?_append_right hi] at a
    rw [List.getElem?_append_right (by rw [← h.1]; exact hi), ← h.1] at b
    exact q.2 _ v v' a b
theorem LR.of_at {sg : Nat → Pl} {N : Nat} {l : List Value} (f : Nat → Option Value) (h : ∀ (i : Nat) (v : Value), l[i]? = some v → ∃ v', f i = some v' ∧ VR sg N v v') : ∃ l', LR sg N l l' ∧ ∀ (i : Nat) (v' : Value), l'[i]? = some v' → f i = some v' := by
  induction l generalizing f with
  | nil => exact ⟨[], LR.nil _ _, fun i v h => by cases h⟩
  | cons v l ih =>
    obtain ⟨v', h1, h2⟩ := h 0 v rfl
    obtain ⟨l', h3, h4⟩ := ih (fun i => f (i + 1)) (fun i u hu => h (i + 1) u hu)
    exact ⟨v' :: l', LR.cons h2 h3, fun i u hu => by
      cases i with
      | zero => cases hu; exact h1
      | succ i => exact h4 i u hu⟩
/-- Several cells set. -/
def setCs (l : List Value) : Nat → T Value → T Value := List.rec (motive := fun _ => Nat → T Value → T Value) (fun _ t => t) (fun v _ f off t => f (Nat.add off 1) (t.set off v)) l
theorem setCs_cons (v : Value) (l : List Value) (off : Nat) (t : T Value) : setCs (v :: l) off t = setCs l (off + 1) (t.set off v) := rfl
theorem get_setCs : ∀ (l : List Value) (off : Nat) (t : T Value) (x : Nat), off + l.length < 1000000000000 → (setCs l off t).get x = if off ≤ x ∧ x < off + l.length then l[x - off]? else t.get x
  | [], off, t, x, h => by rw [if_neg (by simp only [List.length_nil]; omega)]; rfl
  | v :: l, off, t, x, h => by
    simp only [List.length_cons] at h ⊢
    rw [setCs_cons, get_setCs l (off + 1) _ x (by omega), T.get_set _ _ _ _ (by omega)]
    by_cases h1 : off + 1 ≤ x ∧ x < off + 1 + l.length
    · rw [if_pos h1, if_pos (by omega), show x - off = (x - (off + 1)) + 1 by omega, List.getElem?_cons_succ]
    · rw [if_neg h1]
      by_cases h2 : x = off
      · subst h2; rw [if_pos rfl, if_pos (by omega), Nat.sub_self]; rfl
      · rw [if_neg h2, if_neg (by omega)]
def storeKin (H : ASt) (b off : Nat) (l : List Value) (B : Blk) : List Nat → Option ASt
  | [_] => some { heap := H.heap.set b (.cells ⟨B.n, setCs l off B.cs, B.elem, B.grp, B.stride⟩), mem := H.mem, next := H.next }
  | k => bif k.all (fun m => Nat.blt m H.next) then some { heap := (kill b k H.heap).set b (.cells ⟨B.n, setCs l off B.cs, B.elem, B.grp, B.stride⟩), mem := H.mem.set B.grp [b], next := H.next } else none
def storeIn (H : ASt) (b off : Nat) (l : List Value) (B : Blk) : Option ASt :=
  bif Nat.ble (Nat.add off l.length) B.n && l.all oneCell then (match H.mem.get B.grp with | some k => storeKin H b off l B k | none => none) else none
/-- Store cells. -/
def astores (b off : Nat) (l : List Value) (H : ASt) : Option ASt :=
  match H.heap.get b with
  | some (.cells B) => storeIn H b off l B
  | _ => none
theorem setCell_heap (W : World) (a : Addr) (v : Value) (C : Array Value) (e : TypeId) (f : Nat × Nat) (ha : a.spot = none) (h : W.heap[a.block]? = some (.cells C e f)) (k : Nat) :
    (W.setCell a v).heap[k]? = if k = a.block then some (.cells (C.setIfInBounds a.off v) e f) else W.heap[k]? := by
  unfold World.setCell
  simp only [Array.getElem?_modify, ha]
  by_cases hk : a.block = k
  · subst hk; simp [h]
  · have : ¬ (k = a.block) := fun e => hk e.symm
    simp [hk, this]
theorem Row.set {W : World} {a : Addr} {C : Array Value} {e : TypeId} (h : Row W a.block C e) (ha : a.spot = none) (v : Value) :
    Row (W.setCell a v) a.block (C.setIfInBounds a.off v) e ∧ ∀ k, k ≠ a.block → (W.setCell a v).heap[k]? = W.heap[k]? := by
  obtain ⟨e', fz, h, hz⟩ := h
  have hs := setCell_heap W a v C e' fz ha h
  exact ⟨⟨e', fz, by rw [hs, if_pos rfl], fun i hi => hz i (by simpa using hi)⟩, fun k hk => by rw [hs, if_neg hk]⟩
theorem setCells_heap (b : Nat) (e : TypeId) : ∀ (vs : List Value) (o : Nat) (W : World) (C : Array Value), Row W b C e →
    ∃ C' : Array Value, C'.size = C.size ∧ (Row (W.setCells b o vs) b C' e ∧ ∀ x, x ≠ b → (W.setCells b o vs).heap[x]? = W.heap[x]?) ∧ (∀ j, j < o ∨ o + vs.length ≤ j → C'[j]? = C[j]?) ∧ (∀ j, j < vs.length → o + j < C.size → C'[o + j]? = vs[j]?) ∧
      (W.setCells b o vs).os = W.os ∧ (W.setCells b o vs).output = W.output ∧ (W.setCells b o vs).tape = W.tape ∧ (W.setCells b o vs).heap.size = W.heap.size
  | [], o, W, C, h => ⟨C, rfl, ⟨h, fun x _ => rfl⟩, fun _ _ => rfl, fun j hj => (by cases hj), rfl, rfl, rfl, rfl⟩
  | v :: r, o, W, C, h => by
    obtain ⟨hs, hsO⟩ := Row.set (a := ⟨b, o, none⟩) h rfl v
    obtain ⟨C', h1, h2, h3, h4, h5, h6, h7, h8⟩ := setCells_heap b e r (o + 1) (W.setCell ⟨b, o, none⟩ v) (C.setIfInBounds o v) hs
    refine ⟨C', by rw [h1]; simp, ⟨h2.1, fun x hx => ?_⟩, fun j hj => ?_, fun j hj hjs => ?_, h5, h6, h7, by rw [World.setCells, h8]; simp [World.setCell]⟩
    · rw [World.setCells, h2.2 x hx, hsO x hx]
    · simp only [List.length_cons] at hj
      rw [h3 j (by omega), Array.getElem?_setIfInBounds, if_neg (by omega)]
    · cases j with
      | zero =>
        rw [h3 _ (by omega)]
        simp only [Nat.add_zero] at hjs ⊢
        simp [hjs]
      | succ j =>
        rw [List.getElem?_cons_succ, ← h4 j (by simpa using hj) (by simp; omega)]
        congr 1
        omega
theorem one_of' {sg : Nat → Pl} {N : Nat} {v v' : Value} (h : VR sg N v v') (ho : oneCell v = true) : v'.oneCell' = true := by
  cases h <;> first | rfl | (cases ho)
/-- What storing asks and makes, however the family is kept. -/
theorem storeIn_spec {sg : Nat → Pl} {H H' : ASt} {W : World} (hR : R sg H W) {b off : Nat} {l : List Value} {B : Blk} (hB : H.heap.get b = some (.cells B)) (h : storeIn H b off l B = some H') :
    off + l.length ≤ B.n ∧ (∀ v ∈ l, oneCell v = true) ∧ H'.next = H.next ∧ ∃ k, H.mem.get B.grp = some k ∧ b ∈ k ∧
      (∀ x, H'.heap.get x = if x = b then some (.cells ⟨B.n, setCs l off B.cs, B.elem, B.grp, B.stride⟩) else if x ∈ k then none else H.heap.get x) ∧
      (∀ y, H'.mem.get y = if y = B.grp then some [b] else H.mem.get y) := by
  unfold storeIn at h
  cases hc : (Nat.ble (Nat.add off l.length) B.n && l.all oneCell) with
  | false => rw [hc] at h; cases h
  | true =>
  rw [hc, cond_true] at h
  rw [Bool.and_eq_true, Nat.ble_eq] at hc
  obtain ⟨hoff, hone⟩ := hc
  obtain ⟨hg, hBn, k0, hk0, hbk⟩ := hR.kin b B hB
  rw [hk0] at h
  simp only at h
  have hb := hR.lt b _ hB
  have hbig := hR.big
  refine ⟨hoff, List.all_eq_true.1 hone, ?_⟩
  have hmem : ∀ y (m : T (List Nat)), (m.set B.grp [b]).get y = if y = B.grp then some [b] else m.get y := fun y m => T.get_set _ _ _ _ (by omega)
  unfold storeKin at h
  split at h
  · rename_i z
    cases h
    have hz : b = z := by simpa using hbk
    subst hz
    refine ⟨rfl, [b], hk0, hbk, fun x => ?_, fun y => ?_⟩
    · rw [T.get_set _ _ _ _ (by omega)]
      by_cases hx : x = b
      · rw [if_pos hx, if_pos hx]
      · rw [if_neg hx, if_neg hx, if_neg (by simpa using hx)]
    · by_cases hy : y = B.grp
      · rw [if_pos hy, hy]; exact hk0
      · rw [if_neg hy]
  · cases hall : k0.all (fun m => Nat.blt m H.next) with
    | false => rw [hall] at h; cases h
    | true =>
    rw [hall, cond_true] at h
    cases h
    have hall' : ∀ m ∈ k0, m < 1000000000000 := fun m hm => by
      have := List.all_eq_true.1 hall m hm
      have : m < H.next := by simpa [Nat.blt_eq] using this
      omega
    refine ⟨rfl, k0, hk0, hbk, fun x => ?_, fun y => hmem y _⟩
    rw [T.get_set _ _ _ _ (by omega)]
    by_cases hx : x = b
    · rw [if_pos hx, if_pos hx]
    · rw [if_neg hx, if_neg hx, get_kill b k0 H.heap x hall']
      simp [hx]
theorem astores_run {P : Program} (l l' : List Value) (b off i : Nat) (o' : Nat) {sg : Nat → Pl} {H H' : ASt} {W : World} (hR : R sg H W) (hl : LR sg H.next l l') (h : astores b off l H = some H') (ho : o' + i = (sg b).2 + off) :
    ∃ W', (storeCells ⟨(sg b).1, o', none⟩ l' i).run P W = .ok () W' ∧ R sg H' W' ∧ Fr sg H W sg H' W' ∧ H'.next = H.next := by
  unfold astores at h
  split at h
  case h_2 => cases h
  rename_i B hB
  obtain ⟨hoff, hone, hnx, k, hk, hbk, hget, hmem⟩ := storeIn_spec hR hB h
  obtain ⟨hg, hBn, k0, hk0, hbk0⟩ := hR.kin b B hB
  rw [hk] at hk0
  cases hk0
  have hb := hR.lt b _ hB
  have hbig := hR.big
  obtain ⟨C, hC, hbr⟩ := hR.cells b B hB
  obtain ⟨C0, hC0, hCs, hCt⟩ := hR.room b B hB
  obtain ⟨rfl, _⟩ := hC.inj hC0
  have hin : ∀ j, j < l.length → ∃ u, C[(sg b).2 + off + j]? = some u := fun j hj => by
    obtain ⟨u, u', h1, h2, h3⟩ := hbr (off + j) (by omega)
    exact ⟨u', by rw [← h2]; congr 1; omega⟩
  have hrun : (storeCells ⟨(sg b).1, o', none⟩ l' i).run P W = .ok () (W.setCells (sg b).1 (o' + i) l') := run_storeCells_cells (sg b).1 o' l' i W (fun j hj => by
      obtain ⟨u, hu⟩ := hin j (by rw [hl.1]; exact hj)
      rw [hC.cell, ho, hu]; rfl) (fun j hj => by
      obtain ⟨u, hu⟩ := hin j (by rw [hl.1]; exact hj)
      rw [ho]
      exact hC.frozen (Array.getElem?_eq_some_iff.1 hu).1) (fun u hu => by
      obtain ⟨j, hj⟩ := List.mem_iff_getElem?.1 hu
      have hjl : j < l.length := by rw [hl.1]; exact (List.getElem?_eq_some_iff.1 hj).1
      exact one_of' (hl.2 j _ _ (List.getElem?_eq_getElem hjl) hj) (hone _ (List.getElem_mem hjl)))
  rw [ho] at hrun
  obtain ⟨C', d1, ⟨d2, d2'⟩, d3, d4, d5, d6, d7, d8⟩ := setCells_heap (sg b).1 B.elem l' ((sg b).2 + off) W C hC
  -- what is known of another block
  have hoth : ∀ x B', x ≠ b → x ∉ k → H.heap.get x = some (.cells B') → (sg x).1 ≠ (sg b).1 := fun x B' hx hxl hB' e => by
    have hgr := hR.apart x b B' B hB' hB e
    obtain ⟨_, _, l', hl', hm⟩ := hR.kin x B' hB'
    rw [hgr, hk] at hl'
    cases hl'
    exact hxl hm
  refine ⟨_, hrun, ⟨by rw [hnx]; exact hR.pos, ?_, by rw [hnx]; exact hR.big, ?_, ?_, ?_, ?_, ?_, ?_⟩, ⟨Ext.refl _ _, by rw [hnx]; exact Nat.le_refl _, d5, d6, d7, by rw [d8]; exact Nat.le_refl _, ?_, ?_⟩, hnx⟩
  · intro x o hx
    rw [hget] at hx
    rw [hnx]
    split at hx
    · rename_i e; subst e; exact hb
    · split at hx
      · cases hx
      · exact hR.lt x o hx
  · intro x B' hx
    rw [hget] at hx
    rw [hnx]
    split at hx
    · rename_i e
      subst e
      cases hx
      refine ⟨C', d2, fun j hj => ?_⟩
      have hj' : j < B.n := hj
      obtain ⟨y, y', k1, k2, k3⟩ := hbr j hj'
      show ∃ v v', (setCs l off B.cs).get j = some v ∧ _
      rw [get_setCs _ _ _ _ (by omega)]
      by_cases hjo : off ≤ j ∧ j < off + l.length
      · rw [if_pos hjo]
        have h1 : j - off < l.length := by omega
        have h2 : j - off < l'.length := by rw [← hl.1]; exact h1
        refine ⟨l[j - off], l'[j - off], List.getElem?_eq_getElem h1, ?_, hl.2 _ _ _ (List.getElem?_eq_getElem h1) (List.getElem?_eq_getElem h2)⟩
        rw [show (sg x).2 + j = (sg x).2 + off + (j - off) by omega, d4 _ h2 ?_]
        · exact List.getElem?_eq_getElem h2
        · have := (Array.getElem?_eq_some_iff.1 k2).1; omega
      · rw [if_neg hjo]
        exact ⟨y, y', k1, by rw [d3 _ (by rw [← hl.1]; omega)]; exact k2, k3⟩
    · split at hx
      · cases hx
      · rename_i hxb hxl
        obtain ⟨D, hD, hbd⟩ := hR.cells x B' hx
        exact ⟨D, hD.congr (d2' _ (hoth x B' hxb hxl hx)), hbd⟩
  · intro x o hx
    rw [hget] at hx
    rw [hnx]
    split at hx
    · cases hx
    · split at hx
      · cases hx
      · obtain ⟨o', ho, hor⟩ := hR.obj x o hx
        refine ⟨o', ?_, hor⟩
        rw [d2']
        · exact ho
        · intro e
          obtain ⟨_, fz, hC, _⟩ := hC
          rw [e, hC] at ho
          cases ho
          exact hor.notCells _ _ _ rfl
  · intro x B' hx
    rw [hget] at hx
    rw [hnx]
    split at hx
    · rename_i e
      subst e
      cases hx
      exact ⟨hg, hBn, [x], by rw [hmem, if_pos rfl], List.mem_cons_self ..⟩
    · split at hx
      · cases hx
      · rename_i hxb hxl
        obtain ⟨q1, q2, l', hl', hm⟩ := hR.kin x B' hx
        refine ⟨q1, q2, l', ?_, hm⟩
        rw [hmem, if_neg]
        · exact hl'
        · intro e
          rw [e, hk] at hl'
          cases hl'
          exact hxl hm
  · intro x y Bx By hx hy e
    rw [hget] at hx hy
    split at hx
    · rename_i e1
      subst e1
      cases hx
      split at hy
      · cases hy; rfl
      · split at hy
        · cases hy
        · exact hR.apart x y B By hB hy e
    · split at hx
      · cases hx
      · split at hy
        · rename_i e1
          subst e1
          cases hy
          exact hR.apart x y Bx B hx hB e
        · split at hy
          · cases hy
          · exact hR.apart x y Bx By hx hy e
  · intro x y ox oy hx hy e
    rw [hget] at hx hy
    split at hx
    · cases hx
    · split at hx
      · cases hx
      · split at hy
        · cases hy
        · split at hy
          · cases hy
          · exact hR.alone x y ox oy hx hy e
  · intro x B' hx
    rw [hget] at hx
    split at hx
    · rename_i e
      subst e
      cases hx
      exact ⟨C', d2, by rw [d1]; exact hCs, hCt⟩
    · split at hx
      · cases hx
      · rename_i hxb hxl
        obtain ⟨D, hD, hbd⟩ := hR.room x B' hx
        exact ⟨D, hD.congr (d2' _ (hoth x B' hxb hxl hx)), hbd⟩
  · intro x hx hn
    exact d2' x (fun e => hn b _ hB e.symm)
  · intro x o hx
    rw [hget] at hx
    split at hx
    · rename_i e; subst e; exact .inl ⟨x, _, hB, rfl⟩
    · split at hx
      · cases hx
      · exact .inl ⟨x, o, hx, rfl⟩
end
end Go.Proofs.YtgdlpgakhhebeaaGreatDoor.Ev
end
section
set_option linter.unusedVariables false
namespace Go.Proofs.YtgdlpgakhhebeaaGreatDoor.Ev
open Go
noncomputable section

theorem R.inside {sg : Nat → Pl} {H : ASt} {W : World} (hR : R sg H W) {b : Nat} {o : AO} (h : H.heap.get b = some o) : (sg b).1 < W.heap.size := by
  cases o with
  | cells B => obtain ⟨C, hC, _⟩ := hR.cells b B h; exact hC.lt
  | obj o => obtain ⟨o', ho, _⟩ := hR.obj b o h; exact (Array.getElem?_eq_some_iff.1 ho).1
/-- The relation looks at the rows that are known alone. -/
theorem R.world {sg : Nat → Pl} {H : ASt} {W W' : World} (hR : R sg H W) (hk : ∀ b o, H.heap.get b = some o → W'.heap[(sg b).1]? = W.heap[(sg b).1]?) : R sg H W' :=
  ⟨hR.pos, hR.lt, hR.big, fun b B h => by obtain ⟨C, hC, hb⟩ := hR.cells b B h; exact ⟨C, hC.congr (hk b _ h), hb⟩, fun b o h => by obtain ⟨o', ho, hr⟩ := hR.obj b o h; exact ⟨o', by rw [hk b _ h]; exact ho, hr⟩,
    hR.kin, hR.apart, hR.alone, fun b B h => by obtain ⟨C, hC, hb⟩ := hR.room b B h; exact ⟨C, hC.congr (hk b _ h), hb⟩⟩
theorem R.push {sg : Nat → Pl} {H : ASt} {W : World} (hR : R sg H W) (o : Obj) : R sg H { W with heap := W.heap.push o } :=
  hR.world fun b x h => by
    have := hR.inside h
    rw [Array.getElem?_push, if_neg (by omega)]
theorem Fr.push {sg : Nat → Pl} {H : ASt} {W : World} (hR : R sg H W) (o : Obj) : Fr sg H W sg H { W with heap := W.heap.push o } :=
  ⟨Ext.refl _ _, Nat.le_refl _, rfl, rfl, rfl, by simp, fun k hk _ => by rw [Array.getElem?_push, if_neg (by omega)], fun b x h => .inl ⟨b, x, h, rfl⟩⟩

/-- A telling with one more row. -/
def tell (sg : Nat → Pl) (b : Nat) (p : Pl) : Nat → Pl := fun x => if x = b then p else sg x
theorem tell_ext (sg : Nat → Pl) (b : Nat) (p : Pl) : Ext b sg (tell sg b p) := fun x hx => if_neg (by omega)
/-- The known rows of a family. -/
def kins (H : ASt) (g : Nat) : List Nat := match H.mem.get g with | some l => l | none => []
/-- One more known row, of family g. -/
def aadd (H : ASt) (vs : List Value) (elem g st : Nat) : Option ASt :=
  bif Nat.blt (H.next + 1) 1000000000000 && (Nat.blt vs.length 1000000000000 && Nat.ble g H.next) then
    some { heap := H.heap.set H.next (.cells ⟨vs.length, T.ofL vs, elem, g, st⟩), mem := H.mem.set g (H.next :: kins H g), next := H.next + 1 }
  else none
theorem R.add {sg : Nat → Pl} {H H' : ASt} {W : World} (hR : R sg H W) {vs : List Value} {elem g st : Nat} (h : aadd H vs elem g st = some H') {k off : Nat} {C : Array Value}
    (hC : Row W k C elem) (hv : ∀ (i : Nat) (v : Value), vs[i]? = some v → ∃ v', C[off + i]? = some v' ∧ VR sg H.next v v')
    (hg : ∀ x B, H.heap.get x = some (.cells B) → (sg x).1 = k → B.grp = g) : R (tell sg H.next ⟨k, off, C.size, st⟩) H' W ∧ H'.next = H.next + 1 := by
  unfold aadd at h
  cases hc : (Nat.blt (H.next + 1) 1000000000000 && (Nat.blt vs.length 1000000000000 && Nat.ble g H.next)) with
  | false => rw [hc] at h; cases h
  | true =>
  rw [hc] at h
  cases h
  simp only [Bool.and_eq_true, Nat.blt_eq, Nat.ble_eq] at hc
  obtain ⟨c1, c2, c3⟩ := hc
  have hb := hR.big
  have he := tell_ext sg H.next ⟨k, off, C.size, st⟩
  have hget : ∀ x, (H.heap.set H.next (AO.cells ⟨vs.length, T.ofL vs, elem, g, st⟩)).get x = if x = H.next then some (AO.cells ⟨vs.length, T.ofL vs, elem, g, st⟩) else H.heap.get x := fun x => T.get_set _ _ _ _ hb
  have hmem : ∀ (y : Nat) (l : List Nat), (H.mem.set g l).get y = if y = g then some l else H.mem.get y := fun y l => T.get_set _ _ _ _ (by omega)
  have hold : ∀ x o, H.heap.get x = some o → tell sg H.next ⟨k, off, C.size, st⟩ x = sg x := fun x o hx => he x (hR.lt x o hx).2
  have hself : tell sg H.next ⟨k, off, C.size, st⟩ H.next = ⟨k, off, C.size, st⟩ := if_pos rfl
  refine ⟨⟨Nat.succ_pos _, ?_, c1, ?_, ?_, ?_, ?_, ?_, ?_⟩, rfl⟩
  · intro x o hx
    rw [hget] at hx
    split at hx
    · rename_i e; subst e; exact ⟨hR.pos, Nat.lt_succ_self _⟩
    · have := hR.lt x o hx; exact ⟨this.1, Nat.lt_succ_of_lt this.2⟩
  · intro x B hx
    rw [hget] at hx
    split at hx
    · rename_i e
      subst e
      cases hx
      refine ⟨C, by rw [hself]; exact hC, fun i hi => ?_⟩
      have hi' : i < vs.length := hi
      obtain ⟨v', h1, h2⟩ := hv i vs[i] (List.getElem?_eq_getElem hi')
      refine ⟨vs[i], v', ?_, by rw [hself]; exact h1, h2.ext he (Nat.le_succ _)⟩
      rw [T.get_ofL _ _ (by omega)]
      exact List.getElem?_eq_getElem hi'
    · obtain ⟨D, hD, hbd⟩ := hR.cells x B hx
      rw [hold x _ hx]
      exact ⟨D, hD, fun i hi => by obtain ⟨v, v', q1, q2, q3⟩ := hbd i hi; exact ⟨v, v', q1, q2, q3.ext he (Nat.le_succ _)⟩⟩
  · intro x o hx
    rw [hget] at hx
    split at hx
    · cases hx
    · obtain ⟨o', ho, hor⟩ := hR.obj x o hx
      rw [hold x _ hx]
      exact ⟨o', ho, hor.ext he (Nat.le_succ _)⟩
  · intro x B hx
    rw [hget] at hx
    split at hx
    · rename_i e
      subst e
      cases hx
      exact ⟨Nat.lt_succ_of_le c3, c2, _, by rw [hmem, if_pos rfl], List.mem_cons_self ..⟩
    · obtain ⟨q1, q2, l, hl, hm⟩ := hR.kin x B hx
      refine ⟨Nat.lt_succ_of_lt q1, q2, ?_⟩
      rw [hmem]
      split
      · rename_i e
        rw [e] at hl
        exact ⟨_, rfl, List.mem_cons_of_mem _ (by simpa [kins, hl] using hm)⟩
      · exact ⟨l, hl, hm⟩
  · intro x y Bx By hx hy e
    rw [hget] at hx hy
    split at hx
    · rename_i e1
      subst e1
      cases hx
      split at hy
      · cases hy; rfl
      · rw [hself, hold y _ hy] at e
        exact (hg y By hy e.symm).symm
    · split at hy
      · rename_i e1
        subst e1
        cases hy
        rw [hself, hold x _ hx] at e
        exact hg x Bx hx e
      · rw [hold x _ hx, hold y _ hy] at e
        exact hR.apart x y Bx By hx hy e
  · intro x y ox oy hx hy e
    rw [hget] at hx hy
    split at hx
    · cases hx
    · split at hy
      · cases hy
      · rw [hold x _ hx, hold y _ hy] at e
        exact hR.alone x y ox oy hx hy e
  · intro x B hx
    rw [hget] at hx
    split at hx
    · rename_i e
      subst e
      cases hx
      rw [hself]
      exact ⟨C, hC, rfl, rfl⟩
    · rw [hold x _ hx]
      exact hR.room x B hx

/-- A new row: its number is that of the next. -/
def anew (H : ASt) (vs : List Value) (elem st : Nat) : Option ASt := aadd H vs elem H.next st
theorem R.new {sg : Nat → Pl} {H H' : ASt} {W : World} (hR : R sg H W) {vs : List Value} {elem g st : Nat} (h : aadd H vs elem g st = some H') {C : Array Value}
    (hv : ∀ (i : Nat) (v : Value), vs[i]? = some v → ∃ v', C[i]? = some v' ∧ VR sg H.next v v') :
    R (tell sg H.next ⟨W.heap.size, 0, C.size, st⟩) H' { W with heap := W.heap.push (.cells C elem (0, 0)) } ∧ Fr sg H W (tell sg H.next ⟨W.heap.size, 0, C.size, st⟩) H' { W with heap := W.heap.push (.cells C elem (0, 0)) } ∧ H'.next = H.next + 1 := by
  have h1 := (hR.push (.cells C elem (0, 0))).add h (k := W.heap.size) (off := 0) (C := C) (Row.of (e := elem) (by simp)) (fun i v hi => by simpa using hv i v hi) (fun x B hx e => by have := hR.inside hx; omega)
  refine ⟨h1.1, ⟨tell_ext _ _ _, by rw [h1.2]; exact Nat.le_succ _, rfl, rfl, rfl, by simp, fun k hk _ => by rw [Array.getElem?_push, if_neg (by omega)], ?_⟩, h1.2⟩
  intro x o hx
  unfold aadd at h
  cases hc : (Nat.blt (H.next + 1) 1000000000000 && (Nat.blt vs.length 1000000000000 && Nat.ble g H.next)) with
  | false => rw [hc] at h; cases h
  | true =>
  rw [hc] at h
  cases h
  have hx' : (if x = H.next then some (AO.cells ⟨vs.length, T.ofL vs, elem, g, st⟩) else H.heap.get x) = some o := by
    rw [← T.get_set _ _ _ _ hR.big]; exact hx
  split at hx'
  · rename_i e
    subst e
    exact .inr (by simp [tell])
  · refine .inl ⟨x, o, hx', ?_⟩
    rw [tell_ext sg H.next ⟨W.heap.size, 0, C.size, st⟩ x (hR.lt x o hx').2]
end
end Go.Proofs.YtgdlpgakhhebeaaGreatDoor.Ev
end
section
set_option linter.unusedVariables false
namespace Go.Proofs.YtgdlpgakhhebeaaGreatDoor.Ev
open Go
noncomputable section

/-- Cut a known row, and forget the others of its family. -/
def acut (H : ASt) (b m : Nat) : Option (Blk × ASt) :=
  match H.heap.get b with
  | some (.cells B) => bif Nat.ble m B.n && (kins H B.grp).all (fun m => Nat.blt m H.next) then
      some (B, { heap := (kill b (kins H B.grp) H.heap).set b (.cells { B with n := m }), mem := H.mem.set B.grp [b], next := H.next })
    else none
  | _ => none
theorem R.cut {sg : Nat → Pl} {H H' : ASt} {W : World} (hR : R sg H W) {b m : Nat} {B : Blk} (h : acut H b m = some (B, H')) :
    R sg H' W ∧ H'.next = H.next ∧ H.heap.get b = some (.cells B) ∧ m ≤ B.n ∧ H'.heap.get b = some (.cells { B with n := m }) ∧ (∀ x o, x ≠ b → H'.heap.get x = some o → (sg x).1 ≠ (sg b).1) ∧ (∀ x o, H'.heap.get x = some o → ∃ o0, H.heap.get x = some o0) := by
  unfold acut at h
  split at h
  case h_2 => cases h
  rename_i B0 hB
  cases hc : (Nat.ble m B0.n && (kins H B0.grp).all (fun m => Nat.blt m H.next)) with
  | false => rw [hc] at h; cases h
  | true =>
  rw [hc] at h
  cases h
  rw [Bool.and_eq_true, Nat.ble_eq] at hc
  obtain ⟨hm, hall⟩ := hc
  obtain ⟨hg, hBn, l, hl, hbl⟩ := hR.kin b B hB
  have hkl : kins H B.grp = l := by simp [kins, hl]
  rw [hkl] at hall ⊢
  have hb := hR.lt b _ hB
  have hbig := hR.big
  have hall' : ∀ m ∈ l, m < 1000000000000 := fun m hm => by
    have := List.all_eq_true.1 hall m hm
    have : m < H.next := by simpa [Nat.blt_eq] using this
    omega
  have hget : ∀ x, ((kill b l H.heap).set b (AO.cells { B with n := m })).get x = if x = b then some (AO.cells { B with n := m }) else if x ∈ l then none else H.heap.get x := fun x => by
    rw [T.get_set _ _ _ _ (by omega)]
    by_cases hx : x = b
    · rw [if_pos hx, if_pos hx]
    · rw [if_neg hx, if_neg hx, get_kill b l H.heap x hall']
      simp [hx]
  have hoth : ∀ x B', x ≠ b → x ∉ l → H.heap.get x = some (.cells B') → (sg x).1 ≠ (sg b).1 := fun x B' hx hxl hB' e => by
    have hgr := hR.apart x b B' B hB' hB e
    obtain ⟨_, _, l', hl', hm⟩ := hR.kin x B' hB'
    rw [hgr, hl] at hl'
    cases hl'
    exact hxl hm
  refine ⟨⟨hR.pos, ?_, hR.big, ?_, ?_, ?_, ?_, ?_, ?_⟩, rfl, hB, hm, by rw [hget, if_pos rfl], ?_, ?_⟩
  · intro x o hx
    rw [hget] at hx
    split at hx
    · rename_i e; subst e; exact hb
    · split at hx
      · cases hx
      · exact hR.lt x o hx
  · intro x B' hx
    rw [hget] at hx
    split at hx
    · rename_i e
      subst e
      cases hx
      obtain ⟨C, hC, hbr⟩ := hR.cells x B hB
      exact ⟨C, hC, fun i hi => hbr i (Nat.lt_of_lt_of_le hi hm)⟩
    · split at hx
      · cases hx
      · exact hR.cells x B' hx
  · intro x o hx
    rw [hget] at hx
    split at hx
    · cases hx
    · split at hx
      · cases hx
      · exact hR.obj x o hx
  · intro x B' hx
    rw [hget] at hx
    have hmem : ∀ y, (H.mem.set B.grp [b]).get y = if y = B.grp then some [b] else H.mem.get y := fun y => T.get_set _ _ _ _ (by omega)
    split at hx
    · rename_i e
      subst e
      cases hx
      exact ⟨hg, Nat.lt_of_le_of_lt hm hBn, [x], by rw [hmem, if_pos rfl], List.mem_cons_self ..⟩
    · split at hx
      · cases hx
      · rename_i hxb hxl
        obtain ⟨q1, q2, l', hl', hm⟩ := hR.kin x B' hx
        refine ⟨q1, q2, l', ?_, hm⟩
        rw [hmem, if_neg]
        · exact hl'
        · intro e
          rw [e, hl] at hl'
          cases hl'
          exact hxl hm
  · intro x y Bx By hx hy e
    rw [hget] at hx hy
    split at hx
    · rename_i e1
      subst e1
      cases hx
      split at hy
      · cases hy; rfl
      · split at hy
        · cases hy
        · exact hR.apart x y B By hB hy e
    · split at hx
      · cases hx
      · split at hy
        · rename_i e1
          subst e1
          cases hy
          exact hR.apart x y Bx B hx hB e
        · split at hy
          · cases hy
          · exact hR.apart x y Bx By hx hy e
  · intro x y ox oy hx hy e
    rw [hget] at hx hy
    split at hx
    · cases hx
    · split at hx
      · cases hx
      · split at hy
        · cases hy
        · split at hy
          · cases hy
          · exact hR.alone x y ox oy hx hy e
  · intro x B' hx
    rw [hget] at hx
    split at hx
    · rename_i e
      subst e
      cases hx
      exact hR.room x B hB
    · split at hx
      · cases hx
      · exact hR.room x B' hx
  · intro x o hxb hx e
    rw [hget, if_neg hxb] at hx
    split at hx
    · cases hx
    · rename_i hxl
      cases o with
      | cells B' => exact hoth x B' hxb hxl hx e
      | obj o =>
        obtain ⟨o', ho, hor⟩ := hR.obj x o hx
        obtain ⟨C, hC, _⟩ := hR.cells b B hB
        obtain ⟨_, fz, hC, _⟩ := hC
        rw [e, hC] at ho
        cases ho
        exact hor.notCells _ _ _ rfl
  · intro x o hx
    rw [hget] at hx
    split at hx
    · rename_i e; subst e; exact ⟨_, hB⟩
    · split at hx
      · cases hx
      · exact ⟨o, hx⟩

theorem aadd_get {H H' : ASt} {vs : List Value} {elem g st : Nat} (hbig : H.next < 1000000000000) (h : aadd H vs elem g st = some H') (x : Nat) :
    H'.heap.get x = if x = H.next then some (AO.cells ⟨vs.length, T.ofL vs, elem, g, st⟩) else H.heap.get x := by
  unfold aadd at h
  cases hc : (Nat.blt (H.next + 1) 1000000000000 && (Nat.blt vs.length 1000000000000 && Nat.ble g H.next)) with
  | false => rw [hc] at h; cases h
  | true =>
  rw [hc] at h
  cases h
  exact T.get_set _ _ _ _ hbig
/-- k known cells from a place on. -/
def cellsOf (cs : T Value) : Nat → Nat → Option (List Value)
  | _, 0 => some []
  | off, k + 1 => match cs.get off with
    | some v => match cellsOf cs (off + 1) k with
      | some l => some (v :: l)
      | none => none
    | none => none
theorem cellsOf_get (cs : T Value) : ∀ (k off : Nat) (l : List Value), cellsOf cs off k = some l → l.length = k ∧ ∀ i, i < k → l[i]? = cs.get (off + i)
  | 0, off, l, h => by cases h; exact ⟨rfl, fun i hi => by omega⟩
  | k + 1, off, l, h => by
    unfold cellsOf at h
    split at h
    case h_2 => cases h
    rename_i v hv
    split at h
    case h_2 => cases h
    rename_i l' hl'
    cases h
    obtain ⟨h1, h2⟩ := cellsOf_get cs k (off + 1) l' hl'
    refine ⟨by simp [h1], fun i hi => ?_⟩
    cases i with
    | zero => simpa using hv.symm
    | succ i => rw [List.getElem?_cons_succ, h2 i (by omega)]; congr 1; omega
/-- k cells of the row b from off on, and behind them others: where they lie is not known. -/
def agrow (H : ASt) (b off k : Nat) (vs : List Value) : Option ASt :=
  match acut H b (off + k) with
  | some (B, H1) => match cellsOf B.cs off k with
    | some old => aadd H1 (old ++ vs) B.elem B.grp B.stride
    | none => none
  | none => none
theorem R.grow {sg : Nat → Pl} {H H' : ASt} {W W' : World} (hR : R sg H W) {b off k : Nat} {vs : List Value} (h : agrow H b off k vs = some H') {kc o' : Nat} {C' : Array Value} {B : Blk} (hB : H.heap.get b = some (.cells B))
    (hC' : Row W' kc C' B.elem)
    (hplace : ((kc, o') = ((sg b).1, (sg b).2 + off) ∧ C'.size = (sg b).3) ∨ W.heap.size ≤ kc)
    (hsame : ∀ x, x < W.heap.size → x ≠ kc → W'.heap[x]? = W.heap[x]?)
    (hold : ∀ C, Row W (sg b).1 C B.elem → (kc = (sg b).1 → ∀ j, j < (sg b).2 + off + k → C'[j]? = C[j]?) ∧ ∀ i, i < k → C'[o' + i]? = C[(sg b).2 + off + i]?)
    (hnew : ∀ (i : Nat) (v : Value), vs[i]? = some v → ∃ v', C'[o' + k + i]? = some v' ∧ VR sg H.next v v')
    (w1 : W'.os = W.os) (w2 : W'.output = W.output) (w3 : W'.tape = W.tape) (w4 : W.heap.size ≤ W'.heap.size) :
    R (tell sg H.next ⟨kc, o', C'.size, B.stride⟩) H' W' ∧ Fr sg H W (tell sg H.next ⟨kc, o', C'.size, B.stride⟩) H' W' ∧ H'.next = H.next + 1 := by
  unfold agrow at h
  split at h
  case h_2 => cases h
  rename_i B0 H1 hcut
  split at h
  case h_2 => cases h
  rename_i old hof
  obtain ⟨r1, r2, r3, r4, r5, r6, r7⟩ := hR.cut hcut
  rw [hB] at r3
  cases r3
  obtain ⟨C, hC, hbr⟩ := hR.cells b B hB
  obtain ⟨hold1, hold2⟩ := hold C hC
  obtain ⟨ol, oget⟩ := cellsOf_get B.cs k off old hof
  have hb1 := hR.inside hB
  -- the relation holds in the new world before the row is known
  have hW' : R sg H1 W' := by
    rcases hplace with he | he
    · have e1 : kc = (sg b).1 := congrArg Prod.fst he.1
      refine ⟨r1.pos, r1.lt, r1.big, fun x Bx hx => ?_, fun x o hx => ?_, r1.kin, r1.apart, r1.alone, fun x Bx hx => ?_⟩
      · by_cases hxb : x = b
        · subst hxb
          rw [r5] at hx
          cases hx
          refine ⟨C', by rw [← e1]; exact hC', fun i hi => ?_⟩
          obtain ⟨v, v', q1, q2, q3⟩ := hbr i (Nat.lt_of_lt_of_le hi r4)
          have hi' : i < off + k := hi
          exact ⟨v, v', q1, by rw [hold1 e1 _ (by omega)]; exact q2, by rw [r2]; exact q3⟩
        · obtain ⟨D, hD, hbd⟩ := r1.cells x Bx hx
          have := r6 x _ hxb hx
          exact ⟨D, hD.congr (hsame _ (r1.inside hx) (by omega)), hbd⟩
      · have hxb : x ≠ b := fun e => by subst e; rw [r5] at hx; cases hx
        obtain ⟨D, hD, hbd⟩ := r1.obj x o hx
        have := r6 x _ hxb hx
        exact ⟨D, by rw [hsame _ (r1.inside hx) (by omega)]; exact hD, hbd⟩
      · by_cases hxb : x = b
        · subst hxb
          rw [r5] at hx
          cases hx
          obtain ⟨D, hD, hs, ht⟩ := r1.room x _ r5
          exact ⟨C', by rw [← e1]; exact hC', he.2, ht⟩
        · obtain ⟨D, hD, hbd⟩ := r1.room x Bx hx
          have := r6 x _ hxb hx
          exact ⟨D, hD.congr (hsame _ (r1.inside hx) (by omega)), hbd⟩
    · exact r1.world fun x o hx => hsame _ (r1.inside hx) (by have := r1.inside hx; omega)
  have hadd := hW'.add h (k := kc) (off := o') (C := C') hC' (fun i v hi => by
    rcases Nat.lt_or_ge i k with hik | hik
    · rw [List.getElem?_append_left (by omega), oget i hik] at hi
      obtain ⟨u, u', q1, q2, q3⟩ := hbr (off + i) (by omega)
      rw [hi] at q1
      cases q1
      exact ⟨u', by rw [hold2 i hik]; rw [← q2]; congr 1; omega, by rw [r2]; exact q3⟩
    · rw [List.getElem?_append_right (by omega), ol] at hi
      obtain ⟨v', q1, q2⟩ := hnew (i - k) v hi
      exact ⟨v', by rw [← q1]; congr 1; omega, by rw [r2]; exact q2⟩) (fun x Bx hx e => by
    rcases hplace with he | he
    · have e1 : kc = (sg b).1 := congrArg Prod.fst he.1
      by_cases hxb : x = b
      · subst hxb
        rw [r5] at hx
        cases hx
        rfl
      · exact absurd (e.trans e1) (r6 x _ hxb hx)
    · have := r1.inside hx; omega)
  rw [r2] at hadd
  have hget := aadd_get (by rw [r2]; exact hR.big) h
  rw [r2] at hget
  refine ⟨hadd.1, ⟨tell_ext _ _ _, by rw [hadd.2]; exact Nat.le_succ _, w1, w2, w3, w4, fun x hx hn => ?_, fun x o hx => ?_⟩, hadd.2⟩
  · refine hsame x hx (fun e => ?_)
    rcases hplace with he | he
    · exact hn b _ hB (by rw [e]; exact (congrArg Prod.fst he.1).symm)
    · omega
  · rw [hget] at hx
    split at hx
    · rename_i e
      subst e
      rcases hplace with he | he
      · exact .inl ⟨b, _, hB, by simp only [tell, if_pos]; exact (congrArg Prod.fst he.1).symm⟩
      · exact .inr (by simpa [tell] using he)
    · obtain ⟨o0, ho0⟩ := r7 x o hx
      exact .inl ⟨x, o0, ho0, by rw [tell_ext sg H.next ⟨kc, o', C'.size, B.stride⟩ x (hR.lt x o0 ho0).2]⟩
end
end Go.Proofs.YtgdlpgakhhebeaaGreatDoor.Ev
end
