/- Rows of elements of one cell each, appended and read. -/
import Derived.Test.YtmkhhnhoodneeaaPlain
set_option linter.unusedVariables false
namespace Go.Proofs.Ytmkhhnhoodneeaa
open Go.RowKit Go.Proofs.YtmkhhnhoodneeaaW.PrintWords

theorem C_take {α : Type} {d : Kd α} {W : World} {A : Option Addr} {n m : Nat} {xs : List α} (h : d.C W A n xs) (hm : m ≤ n) : d.C W A m (xs.take m) := by
  have hl := h.1
  refine ⟨by simp; omega, by have := h.2.1; omega, fun hp => ?_⟩
  obtain ⟨ad, e, hc⟩ := h.2.2 (by omega)
  exact ⟨ad, e, fun j p hj => hc j p (by
    have hjm : j < m := by
      have := (List.getElem?_eq_some_iff.1 hj).1
      simp at this; omega
    rwa [List.getElem?_take, if_pos hjm] at hj)⟩
/-- The cells of a slice whose elements are one cell each. -/
theorem C_cells {α : Type} {d : Kd α} {W : World} {ad : Addr} {n : Nat} {xs : List α} (h : d.C W (some ad) n xs) (hs : d.sz = 1) : ∃ cs : List Value, cs.length = n ∧ (∀ (j : Nat) (u : Value), cs[j]? = some u → W.cell? (ad.add j) = some u) ∧ (∀ (j : Nat) (p : α), xs[j]? = some p → ∃ u, cs[j]? = some u ∧ d.K W p [u]) := by
  have hl := h.1
  have key : ∀ j, j < n → ∃ u, W.cell? (ad.add j) = some u ∧ ∀ p, xs[j]? = some p → d.K W p [u] := fun j hj => by
    obtain ⟨ad', e, hc⟩ := h.2.2 (by omega)
    cases e
    obtain ⟨c, h1, h2, h3⟩ := hc j xs[j] (List.getElem?_eq_getElem (by omega))
    rw [hs] at h1
    match c, h1 with
    | [u], _ =>
      refine ⟨u, by have := h3 0 u rfl; rwa [hs, Nat.mul_one, Nat.add_zero] at this, fun p hp => ?_⟩
      rw [List.getElem?_eq_getElem (show j < xs.length by omega)] at hp
      cases hp
      exact h2
  refine ⟨(List.range n).map (fun j => (W.cell? (ad.add j)).getD undef), by simp, fun j u hu => ?_, fun j p hp => ?_⟩
  · have hj : j < n := by have := (List.getElem?_eq_some_iff.1 hu).1; simpa using this
    obtain ⟨v, hv, _⟩ := key j hj
    simp [hj, hv] at hu
    rw [hv, hu]
  · have hj : j < n := by have := (List.getElem?_eq_some_iff.1 hp).1; omega
    obtain ⟨v, hv, hk⟩ := key j hj
    exact ⟨v, by simp [hj, hv], hk p hp⟩
/-- What owns cells that read as xs is read as xs. -/
theorem C_of_own {α : Type} {d : Kd α} {W : World} {base e : Nat} {A : Option Addr} {n c : Nat} {xs : List α} {cs : List Value} (hs : d.sz = 1) (ho : W.ownsRow base e 1 (.slice A n c) n cs) (hn : n ≤ 9223372036854775807) (hx : xs.length = n) (hk : ∀ (j : Nat) (p : α), xs[j]? = some p → ∃ u, cs[j]? = some u ∧ d.K W p [u]) : d.C W A n xs := by
  refine ⟨hx, hn, fun hp => ?_⟩
  obtain ⟨g, cap, e1, _, _⟩ := ho.form hp
  cases e1
  refine ⟨_, rfl, fun j p hj => ?_⟩
  obtain ⟨u, hu, hK⟩ := hk j p hj
  refine ⟨[u], by rw [hs]; rfl, hK, fun i v hv => ?_⟩
  cases i with
  | zero =>
    simp at hv
    subst hv
    rw [hs, Nat.mul_one, Nat.add_zero]
    exact ho.cells (g := g) rfl j _ hu
  | succ i => simp at hv
/-- append(v, xs...): raw cells; xs any elements of one cell each, nil let in. -/
theorem run_app_cells {P : Program} {Wk W : World} {base : Nat} {t e ty : TypeId} {z : Value} {bytes : Nat} {α : Type} {d : Kd α} (ht : P.underlying t = some (.slice e)) (hinfo : (P.info? e).map (fun i => (i.zero, i.size, i.bytes)) = some (some z, 1, bytes)) (hz : z.cells.size = 1) (hb0 : 0 < bytes) (hs : d.sz = 1)
    {v : Value} {os : List Value} {xs : List α} {A : Option Addr} {m c : Nat} (HO : W.ownsRow base e 1 v os.length os) (hbk : Below Wk.heap.size Wk W) (HC : d.C Wk A m xs) (h1 : ∀ p u, d.K Wk p [u] → u.oneCell' = true) (hbase : base ≤ W.heap.size) (hl : (os.length + m) * bytes ≤ 140737488355328) :
    ∃ cs v1 w1, (∀ (j : Nat) (p : α), xs[j]? = some p → ∃ u, cs[j]? = some u ∧ d.K Wk p [u]) ∧ cs.length = m ∧ (Builtin.append_ #[t, t] ty #[v, .slice A m c]).run P W = .ok v1 w1 ∧ w1.ownsRow base e 1 v1 (os ++ cs).length (os ++ cs) ∧ W.grownBy w1 v.ownBlock ∧ (v1.ownBlock = v.ownBlock ∨ ∃ b, v1.ownBlock = some b ∧ W.heap.size ≤ b) := by
  obtain ⟨i0, hi, hzz⟩ := Option.map_eq_some_iff.1 hinfo
  simp only [Prod.mk.injEq] at hzz
  obtain ⟨hz0, hz1, hz2⟩ := hzz
  have hm : xs.length = m := HC.1
  have hlen : os.length + m ≤ 140737488355328 := Nat.le_trans (Nat.le_mul_of_pos_right _ hb0) hl
  rcases A with _ | ad
  · have h0m : m = 0 := by
      rcases Nat.eq_zero_or_pos m with h0 | h0
      · exact h0
      · obtain ⟨ad, h, _⟩ := HC.2.2 h0
        cases h
    subst h0m
    obtain rfl : xs = [] := List.eq_nil_of_length_eq_zero hm
    refine ⟨[], v, W, fun j p h => by simp at h, rfl, ?_, by simpa using HO, World.grownBy.refl W _, .inl rfl⟩
    rcases HO.2 with ⟨rfl, hn⟩ | ⟨g, cap, cur, rfl, _, _, hnc, _⟩
    · simp [Builtin.append_, run_underlying ht, sizeOf, typeInfo, hi, Builtin.lenOf, Builtin.firstCells]
    · simp [Builtin.append_, run_underlying ht, sizeOf, typeInfo, hi, Builtin.lenOf, Builtin.firstCells, hnc, storeCells]
  · obtain ⟨cs, hcl, hcc, hck⟩ := C_cells HC hs
    have hone : ∀ u ∈ cs, u.oneCell' = true := by
      intro u hu
      obtain ⟨j, hj, rfl⟩ := List.getElem_of_mem hu
      obtain ⟨u', hu', hK⟩ := hck j xs[j] (List.getElem?_eq_getElem (by omega))
      rw [List.getElem?_eq_getElem hj] at hu'
      cases hu'
      exact h1 _ _ hK
    obtain ⟨v1, w1, hrun, hw1, hg, _, hat⟩ := run_append_own_at (P := P) W base t ty e i0 z 1 bytes ht hi hz0 hz1 hz2 hz (by omega) v os.length os HO ad m c cs (by rw [hcl, Nat.mul_one]) (fun j u h => pw_cell_below hbk (hcc j u h)) hone (by simp only [maxLen]; omega) hl hbase
    exact ⟨cs, v1, w1, hck, hcl, hrun, by rw [List.length_append, hcl]; exact hw1, hg, hat.imp id (fun h => ⟨_, h, Nat.le_refl _⟩)⟩


theorem own_cap {W : World} {base e size : Nat} {A : Option Addr} {n c : Nat} {xs : List Value} (h : W.ownsRow base e size (.slice A n c) n xs) : n ≤ c := by
  rcases h.2 with ⟨e1, rfl⟩ | ⟨g, cap, cur, e1, _, _, hnc, _⟩
  · exact Nat.zero_le _
  · cases e1; exact hnc

end Go.Proofs.Ytmkhhnhoodneeaa
