/- scan: a row of segments, appended to another. -/
import Derived.Test.YtmkhhnhoodneeaaLiv
set_option linter.unusedVariables false
set_option linter.unusedSimpArgs false
namespace Go.Proofs.Ytmkhhnhoodneeaa
open Go.RowKit Go.Proofs.YtmkhhnhoodneeaaW.PrintWords Go.Proofs.YtmkhhnhoodneeaaW.PrintMore

theorem Reps.append' {α : Type} {R : α → List Value → Prop} {size : Nat} {ps qs : List α} {cs ds : List Value} (h : Reps R size ps cs) (k : Reps R size qs ds) : Reps R size (ps ++ qs) (cs ++ ds) := by
  refine ⟨by rw [List.length_append, h.1, k.1, List.length_append, Nat.add_mul], fun j p hj => ?_⟩
  rcases Nat.lt_or_ge j ps.length with hlt | hge
  · rw [List.getElem?_append_left hlt] at hj
    have h1 : j * size + size ≤ cs.length := by rw [h.1, ← Nat.succ_mul]; exact Nat.mul_le_mul_right _ hlt
    have h2 := h.2 j p hj
    rw [List.drop_append_of_le_length (by omega), List.take_append_of_le_length (by rw [List.length_drop]; omega)]
    exact h2
  · rw [List.getElem?_append_right hge] at hj
    have h2 := k.2 _ p hj
    have e : j * size = cs.length + (j - ps.length) * size := by rw [h.1, ← Nat.add_mul]; congr 1; omega
    rw [e, List.drop_append, List.drop_eq_nil_of_le (by omega), List.nil_append, Nat.add_sub_cancel_left]
    exact h2
theorem SegRow.appendRow {base base' : Nat} {W : World} {T : Nat → Prop} {v : Value} {L L' : List P.S39} {A' : Option Addr} {c' : Nat} (h : SegRow base W T v L) (h' : SegRow base' W T (.slice A' L'.length c') L') (hbase : base ≤ W.heap.size) (hl : L.length + L'.length ≤ 1000000) (hT : ∀ b, T b → b < W.heap.size) :
    ∃ v1 w1, (Builtin.append_ #[28, 28] 28 #[v, .slice A' L'.length c']).run Try.prog W = .ok v1 w1 ∧ SegRow base w1 T v1 (L ++ L') ∧ W.grownBy w1 v.ownBlock ∧ (v1.ownBlock = v.ownBlock ∨ ∃ b, v1.ownBlock = some b ∧ W.heap.size ≤ b) := by
  cases A' with
  | none =>
    have h0 : L' = [] := by
      rcases Nat.eq_zero_or_pos L'.length with h0 | h0
      · exact List.eq_nil_of_length_eq_zero h0
      · obtain ⟨_, rows', hlr', hR', _⟩ := h'
        obtain ⟨_, inner', hown', _⟩ := hR'
        obtain ⟨g, cap, e1, _, _⟩ := hown'.form (by omega)
        cases e1
    subst h0
    obtain ⟨i0, hi, hzz⟩ := Option.map_eq_some_iff.1 infoS
    refine ⟨v, W, ?_, by simpa using h, World.grownBy.refl W _, .inl rfl⟩
    obtain ⟨_, rows, hlr, hR, _⟩ := h
    obtain ⟨_, inner, hown, _⟩ := hR
    rcases hown.2 with ⟨rfl, hn⟩ | ⟨g, cap, cur, rfl, _, _, hnc, _⟩
    · simp [Builtin.append_, run_underlying Try.underlying28, sizeOf, typeInfo, hi, Builtin.lenOf, Builtin.firstCells]
    · simp [Builtin.append_, run_underlying Try.underlying28, sizeOf, typeInfo, hi, Builtin.lenOf, Builtin.firstCells, hnc, storeCells]
  | some ad =>
    obtain ⟨hv0, rows, hlr, hR, hf⟩ := h
    have ht := Kd.R_typed hR
    obtain ⟨hv0', rows', hlr', hR', hf'⟩ := h'
    obtain ⟨ho', inner', hown', hreps'⟩ := hR'
    obtain ⟨ho, inner, hown, hreps⟩ := hR
    obtain ⟨i0, hi, hzz⟩ := Option.map_eq_some_iff.1 infoS
    simp only [Prod.mk.injEq] at hzz
    obtain ⟨hz0, hz1, hz2⟩ := hzz
    have hil : inner'.length = L'.length * 4 := by rw [hreps'.1, hlr']; rfl
    have hcells : ∀ (j : Nat) (u : Value), inner'[j]? = some u → W.cell? (ad.add j) = some u := fun j u hu => by
      have hj := (List.getElem?_eq_some_iff.1 hu).1
      obtain ⟨g, cap, e1, _, _⟩ := hown'.form (by omega)
      injection e1 with q1 q2 q3
      injection q1 with q1
      subst q1
      exact hown'.cells (g := g) rfl j _ hu
    have hone : ∀ u ∈ inner', u.oneCell' = true := by
      intro u hu
      obtain ⟨j, hj, rfl⟩ := List.getElem_of_mem hu
      have hj4 : j / 4 < rows'.length := by omega
      have h2 := hreps'.2 (j / 4) _ (List.getElem?_eq_getElem hj4)
      have h3 := (Kd.raw 4).K_one ((Kd.raw 4).K_of_M (w := W) h2)
      refine h3 _ ?_
      have : (List.take (Kd.raw 4).sz (List.drop (j / 4 * (Kd.raw 4).sz) inner'))[j % 4]? = some inner'[j] := by
        have hlt : j % 4 < 4 := Nat.mod_lt _ (by decide)
        simp only [Kd.raw]
        rw [List.getElem?_take, if_pos hlt, List.getElem?_drop, show j / 4 * 4 + j % 4 = j by omega, List.getElem?_eq_getElem hj]
      exact List.mem_of_getElem? this
    obtain ⟨v1, w1, hrun, hw1, hg, _, hat⟩ := run_append_own_at (P := Try.prog) W base 28 28 39 i0 _ 4 48 Try.underlying28 hi hz0 hz1 hz2 rfl (by omega) v rows.length inner hown ad L'.length c' inner' hil hcells hone (by simp only [maxLen]; omega) (by omega) hbase
    have hat' : v1.ownBlock = v.ownBlock ∨ ∃ b, v1.ownBlock = some b ∧ W.heap.size ≤ b := hat.imp id (fun h => ⟨_, h, Nat.le_refl _⟩)
    refine ⟨v1, w1, hrun, ⟨fun b hb htb => ?_, rows ++ rows', by simp [hlr, hlr'], ⟨fun _ _ => trivial, inner ++ inner', by rw [List.length_append, hlr']; exact hw1, Reps.append' hreps hreps'⟩, fun j s hj => ?_⟩, hg, hat'⟩
    · rcases hat' with h | ⟨b', h, hle⟩
      · exact hv0 b (h ▸ hb) htb
      · rw [h] at hb; cases hb; have := hT _ htb; omega
    · rcases Nat.lt_or_ge j L.length with hlt | hge
      · rw [List.getElem?_append_left hlt] at hj
        obtain ⟨A, h1, h2⟩ := hf j s hj
        exact ⟨A, by rw [List.getElem?_append_left (by omega)]; exact h1, h2.grown hg ht hT⟩
      · rw [List.getElem?_append_right hge] at hj
        obtain ⟨A, h1, h2⟩ := hf' _ s hj
        exact ⟨A, by rw [List.getElem?_append_right (by omega), hlr]; exact h1, h2.grown hg ht hT⟩
end Go.Proofs.Ytmkhhnhoodneeaa
