/- A law's last statement: loads of boxes, calls that write nothing old, a store into the box of its result. -/
import Derived.Test.YtnflobldekhjbaaIter
import Derived.Test.YtnflobldekhjbaaWWords
import Derived.RangeFuncBox
set_option linter.unusedVariables false
set_option linter.unusedSimpArgs false
namespace Go.Proofs.Ytnflobldekhjbaa
open Go.RowKit Go.Proofs.YtnflobldekhjbaaW.PrintWords

/-- Each cell of V that holds no truth value holds in W what it held. -/
def Nb (V W : World) : Prop := ∀ (p : Addr) (v : Value), V.cell? p = some v → (∀ b, v ≠ .bool b) → W.cell? p = some v
theorem Nb.refl (V : World) : Nb V V := fun _ _ h _ => h
theorem Nb.below {V W W' : World} (h : Nb V W) (hb : Below W.heap.size W W') : Nb V W' := fun p v hc hv => pw_cell_below hb (h p v hc hv)
theorem Nb.store {V W : World} {B : Nat} {t : TypeId} {b : Bool} (h : Nb V W) (hB : Boxed W B t (.bool b)) (u : Value) : Nb V (W.setCell ⟨B, 0, none⟩ u) := fun p v hc hv => by
  have h1 := h p v hc hv
  by_cases hp : p = ⟨B, 0, none⟩
  · subst hp
    rw [hB.cell] at h1
    exact absurd (Option.some.inj h1).symm (hv b)
  · rw [World.cell?_setCell_other _ _ _ _ (by first | exact hp | exact fun e => hp e.symm)]
    exact h1
theorem row_nb {α : Type} {R : α → List Value → Prop} {size : Nat} {w w1 : World} {A : Option Addr} {n : Nat} {ps : List α} (h : ReadsRow R size w A n ps) (hb : Nb w w1) (R' : α → List Value → Prop) (hR : ∀ p c, R p c → R' p c) (hn : ∀ p c, R p c → ∀ u ∈ c, ∀ b, u ≠ .bool b) : ReadsRow R' size w1 A n ps :=
  ⟨h.1, h.2.1, fun h0 => by
    obtain ⟨ad, e, hc⟩ := h.2.2 h0
    refine ⟨ad, e, fun j p hj => ?_⟩
    obtain ⟨c, hs, hr, hcell⟩ := hc j p hj
    exact ⟨c, hs, hR _ _ hr, fun i u hu => hb _ _ (hcell i u hu) (hn p c hr u (List.mem_of_getElem? hu))⟩⟩
theorem C_nb_int {k : IntKind} {w w1 : World} {A : Option Addr} {n : Nat} {xs : List Int} (h : (Kd.int k).C w A n xs) (hb : Nb w w1) : (Kd.int k).C w1 A n xs :=
  row_nb h hb _ (fun _ _ h => h) (fun p c hc u hu b => by
    have hc : c = [.int k p] := hc
    subst hc
    rw [List.mem_singleton.1 hu]
    exact fun e => by cases e)
theorem C_nb_rows {k : IntKind} {e : Nat} {w w1 : World} {A : Option Addr} {n : Nat} {xs : List (List Int)} (h : (Kd.slice e (Kd.int k)).C w A n xs) (hb : Nb w w1) : (Kd.slice e (Kd.int k)).C w1 A n xs :=
  row_nb h hb _ (fun p c hc => by
    obtain ⟨A, cap, rfl, h1, h2⟩ := hc
    exact ⟨A, cap, rfl, h1, C_nb_int h2 hb⟩) (fun p c hc u hu b => by
    obtain ⟨A, cap, rfl, h1, h2⟩ := hc
    rw [List.mem_singleton.1 hu]
    exact fun e => by cases e)

/-- What stands throughout the last statement: V the world ahead of it, B the box of the result, dl the records of the loops. -/
def LastS (w V : World) (B : Nat) (t : TypeId) (dl : List Nat) (W : World) : Prop :=
  (∃ b, Boxed W B t (.bool b)) ∧ Nb V W ∧ Below w.heap.size w W ∧ ∀ D ∈ dl, W.heap[D]? = some (.deferred (some []))
theorem LastS.below {w V W W' : World} {B : Nat} {t : TypeId} {dl : List Nat} (h : LastS w V B t dl W) (hb : Below W.heap.size W W') : LastS w V B t dl W' := by
  obtain ⟨⟨b, h1⟩, h2, h3, h4⟩ := h
  exact ⟨⟨b, (hb.block _ h1.lt).trans h1⟩, h2.below hb, h3.trans (hb.mono h3.size), fun D hD => (hb.block _ (Array.getElem?_eq_some_iff.1 (h4 D hD)).1).trans (h4 D hD)⟩
theorem LastS.drew {w V W : World} {B : Nat} {t : TypeId} {dl : List Nat} (h : LastS w V B t dl W) : LastS w V B t dl W.drew := h.below (Below.refl _ W).drew
theorem LastS.frozen {w V W : World} {B : Nat} {t : TypeId} {dl : List Nat} (h : LastS w V B t dl W) : W.frozen? ⟨B, 0, none⟩ = false := by
  obtain ⟨⟨b, h1⟩, _⟩ := h
  exact h1.frozen
theorem LastS.has {w V W : World} {B : Nat} {t : TypeId} {dl : List Nat} (h : LastS w V B t dl W) : ∃ b, W.cell? ⟨B, 0, none⟩ = some (.bool b) := by
  obtain ⟨⟨b, h1⟩, _⟩ := h
  exact ⟨b, h1.cell⟩
/-- What a box holds, whatever it is. -/
def boxVal (W : World) (B : Nat) : Value := (W.cell? ⟨B, 0, none⟩).getD undef
theorem LastS.cell {w V W : World} {B : Nat} {t : TypeId} {dl : List Nat} (h : LastS w V B t dl W) : W.cell? ⟨B, 0, none⟩ = some (boxVal W B) := by
  obtain ⟨b, h1⟩ := h.has
  unfold boxVal
  rw [h1]
  rfl
theorem LastS.told {w V W : World} {B : Nat} {t : TypeId} {dl : List Nat} {v : Bool} (h : LastS w V B t dl (W.setCell ⟨B, 0, none⟩ (.bool v))) : (W.setCell ⟨B, 0, none⟩ (.bool v)).cell? ⟨B, 0, none⟩ = some (.bool v) := by
  obtain ⟨⟨b, h1⟩, _⟩ := h
  have h2 : ∃ u, W.cell? ⟨B, 0, none⟩ = some u := by
    cases hc : W.heap[B]? with
    | none =>
      have h4 := h1.lt
      simp [World.setCell] at h4
      rw [Array.getElem?_eq_getElem h4] at hc
      cases hc
    | some o =>
      have h3 : (W.setCell ⟨B, 0, none⟩ (.bool v)).heap[B]? = _ := h1
      obtain ⟨hlt, hk⟩ := Array.getElem?_eq_some_iff.1 hc
      simp only [World.setCell, Array.getElem?_modify, hc] at h3
      cases o with
      | cells cs ty fr =>
        simp at h3
        obtain ⟨h4, -⟩ := h3
        have : cs.size = 1 := by have := congrArg Array.size h4; simpa using this
        exact ⟨cs[0], by simp [World.cell?, hc, this]⟩
      | _ => simp at h3
  obtain ⟨u, h2⟩ := h2
  exact World.cell?_setCell_same _ _ _ h2
theorem LastS.store {w V W : World} {B : Nat} {t : TypeId} {dl : List Nat} (h : LastS w V B t dl W) (hB : w.heap.size ≤ B) (v : Bool) : LastS w V B t dl (W.setCell ⟨B, 0, none⟩ (.bool v)) := by
  obtain ⟨⟨b, h1⟩, h2, h3, h4⟩ := h
  exact ⟨⟨v, h1.set _⟩, h2.store h1 _, h3.setCell (p := ⟨B, 0, none⟩) hB _, fun D hD => Books.setCell _ _ _ _ _ (h4 D hD) rfl⟩
theorem cell_far {W : World} {B C : Nat} {v u : Value} (h : W.cell? ⟨C, 0, none⟩ = some v) (hne : C ≠ B) : (W.setCell ⟨B, 0, none⟩ u).cell? ⟨C, 0, none⟩ = some v := by
  rw [World.cell?_setCell_other _ _ _ _ (fun e => hne (congrArg Addr.block e).symm)]
  exact h
end Go.Proofs.Ytnflobldekhjbaa
