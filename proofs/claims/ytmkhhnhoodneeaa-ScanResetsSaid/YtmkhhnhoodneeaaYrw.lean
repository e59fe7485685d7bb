/- scan: a row of segments, of the call's own, whose places are moved one by one. -/
import Derived.Test.YtmkhhnhoodneeaaLiv
set_option linter.unusedVariables false
set_option linter.unusedSimpArgs false
namespace Go.Proofs.Ytmkhhnhoodneeaa
open Go.RowKit Go.Proofs.YtmkhhnhoodneeaaW.PrintWords Go.Proofs.YtmkhhnhoodneeaaW.PrintMore

/-- The first k have been moved by d. -/
def YRow (W : World) (g : Nat) (L : List P.S39) (d k : Nat) : Prop :=
  (∃ cur, W.heap[g]? = some (.cells cur 39 (0, 0))) ∧ ∀ (j : Nat) (s : P.S39), L[j]? = some s → ∃ B, BytesT W (fun b => b = g) B s.f0 ∧ ∀ i u, (segC B (if j < k then lat d s else s))[i]? = some u → W.cell? ((⟨g, 0, none⟩ : Addr).add (j * 4 + i)) = some u
theorem YRow.of_seg {base : Nat} {W : World} {T : Nat → Prop} {A : Option Addr} {c : Nat} {L : List P.S39} (d : Nat) (h : SegRow base W T (.slice A L.length c) L) (hpos : 0 < L.length) : ∃ g, A = some ⟨g, 0, none⟩ ∧ base ≤ g ∧ YRow W g L d 0 := by
  obtain ⟨h0, rows, hl, hR, hf⟩ := h
  have hty := Kd.R_typed hR
  obtain ⟨_, inner, hown, hreps⟩ := id hR
  rcases hown.2 with ⟨e, _⟩ | ⟨g, cap, cur, e, hg, hh, hr⟩
  · injection e with _ e2; omega
  · injection e with e1 e2 e3
    subst e1
    have h' : SegRow base W T (.slice (some ⟨g, 0, none⟩) L.length c) L := ⟨h0, rows, hl, hR, hf⟩
    refine ⟨g, rfl, hg, ⟨cur, hh⟩, fun j s hj => ?_⟩
    obtain ⟨ad, B, e, hB, hc⟩ := h'.at_ j s hj
    cases e
    refine ⟨B, Kd.F_mono hB (fun k hk => ⟨hk.1, fun e => ?_⟩), fun i u hu => hc i u (by rw [if_neg (Nat.not_lt_zero j)] at hu; exact hu)⟩
    subst e
    obtain ⟨⟨cs, hcs⟩, _⟩ := hk
    rw [hh] at hcs; cases hcs
theorem YRow.step {W W' : World} {g : Nat} {L : List P.S39} {d k : Nat} (h : YRow W g L d k) (hb : Below W.heap.size W W') : YRow W' g L d k := by
  obtain ⟨⟨cur, hh⟩, h⟩ := h
  refine ⟨⟨cur, (hb.block g (Array.getElem?_eq_some_iff.1 hh).1).trans hh⟩, fun j s hj => ?_⟩
  obtain ⟨B, hB, hc⟩ := h j s hj
  exact ⟨B, hB.stepn (T := fun b => b = g) (T' := fun b => b = g) (n := 0) (Stab.of_below hb) (fun b hb' => .inl hb'), fun i u hu => pw_cell_below hb (hc i u hu)⟩
theorem YRow.frozen {W : World} {g : Nat} {L : List P.S39} {d k : Nat} (h : YRow W g L d k) (o : Nat) : W.frozen? ⟨g, o, none⟩ = false := by
  obtain ⟨⟨cur, hh⟩, _⟩ := h
  simp [World.frozen?, hh]
theorem add_g (g k : Nat) : ((⟨g, 0, none⟩ : Addr).add k) = ⟨g, k, none⟩ := by unfold Addr.add; split <;> simp_all
/-- The place of the k-th. -/
theorem YRow.cell {W : World} {g : Nat} {L : List P.S39} {d k : Nat} (h : YRow W g L d k) {s : P.S39} (hk : L[k]? = some s) : W.cell? ⟨g, k * 4 + 3, none⟩ = some (.int .u64 s.f3) := by
  obtain ⟨B, hB, hc⟩ := h.2 k s hk
  have := hc 3 (.int .u64 s.f3) (by rw [if_neg (Nat.lt_irrefl k)]; rfl)
  rwa [add_g] at this
theorem YRow.set {W : World} {g : Nat} {L : List P.S39} {d k : Nat} (h : YRow W g L d k) {s : P.S39} (hk : L[k]? = some s) : YRow (W.setCell ⟨g, k * 4 + 3, none⟩ (.int .u64 (s.f3 + d))) g L d (k + 1) := by
  have hcell := h.cell hk
  have hh := h.1
  refine ⟨?_, fun j t hj => ?_⟩
  · obtain ⟨cur, hh⟩ := hh
    refine ⟨cur.setIfInBounds (k * 4 + 3) (.int .u64 (s.f3 + d)), ?_⟩
    simp [World.setCell, Array.getElem?_modify, hh]
  obtain ⟨B, hB, hc⟩ := h.2 j t hj
  refine ⟨B, hB.stepn (T := fun b => b = g) (T' := fun b => b = g) (n := 0) (Stab.setT (T := fun b => b = g) (n := 0) (p := ⟨g, k * 4 + 3, none⟩) W rfl _) (fun b hb' => .inl hb'), fun i u hu => ?_⟩
  rw [add_g]
  have hi : i < 4 := by
    rcases Nat.lt_or_ge i 4 with h | h
    · exact h
    · rw [List.getElem?_eq_none (by simp [segC]; omega)] at hu; cases hu
  by_cases e : j = k ∧ i = 3
  · obtain ⟨rfl, rfl⟩ := e
    rw [hk] at hj; cases hj
    rw [if_pos (Nat.lt_succ_self j)] at hu
    have : u = .int .u64 (s.f3 + d) := by
      have hu' : some (Value.int .u64 (s.f3 + (d : Int))) = some u := hu
      exact (Option.some.inj hu').symm
    rw [this]
    exact World.cell?_setCell_same W _ _ hcell
  · rw [World.cell?_setCell_other _ _ _ _ (by intro h; simp only [Addr.mk.injEq] at h; apply e; omega)]
    have hq := hc i u (by
      by_cases h1 : j < k
      · rw [if_pos h1]; rw [if_pos (by omega)] at hu; exact hu
      · rw [if_neg h1]
        by_cases h2 : j = k
        · subst h2
          have h3 : i ≠ 3 := fun q => e ⟨rfl, q⟩
          rw [if_pos (Nat.lt_succ_self j)] at hu
          obtain ⟨f0, f1, f2, f3⟩ := t
          match i, hi, h3 with
          | 0, _, _ => exact hu
          | 1, _, _ => exact hu
          | 2, _, _ => exact hu
          | 3, _, h3 => exact absurd rfl h3
        · rw [if_neg (by omega)] at hu; exact hu)
    rwa [add_g] at hq
theorem YRow.C {W : World} {g : Nat} {L : List P.S39} {d : Nat} (h : YRow W g L d L.length) (hl : L.length ≤ 1000000) : Kd.C P.k39 W (some ⟨g, 0, none⟩) (L.map (lat d)).length (L.map (lat d)) := by
  refine ⟨rfl, by simp; omega, fun _ => ⟨_, rfl, fun j p hj => ?_⟩⟩
  rw [List.getElem?_map] at hj
  cases hs : L[j]? with
  | none => rw [hs] at hj; simp at hj
  | some s =>
    rw [hs] at hj
    have hp : lat d s = p := by simpa using hj
    subst hp
    obtain ⟨B, hB, hc⟩ := h.2 j s hs
    rw [if_pos (List.getElem?_eq_some_iff.1 hs).1] at hc
    exact ⟨segC B (lat d s), rfl, P.k39_mk W (lat d s) (Nat.le_refl _) (Kd.F_now hB), hc⟩
theorem SegRow.apart {base : Nat} {W : World} {T : Nat → Prop} {v : Value} {L : List P.S39} {g : Nat} {cur : Array Value} (h : SegRow base W T v L) (hg : W.heap[g]? = some (.cells cur 39 (0, 0))) (hne : ∀ k, v.ownBlock = some k → k ≠ g) : SegRow base W (fun b => b = g) v L := by
  obtain ⟨h0, rows, hl, hR, hf⟩ := h
  refine ⟨fun b hb ht => hne b hb ht, rows, hl, hR, fun j s hj => ?_⟩
  obtain ⟨A, q1, q2⟩ := hf j s hj
  refine ⟨A, q1, Kd.F_mono q2 (fun k hk => ⟨hk.1, fun e => ?_⟩)⟩
  subst e
  obtain ⟨⟨cs, hcs⟩, _⟩ := hk
  rw [hg] at hcs; cases hcs
/-- Between two rounds of the loop that moves y: x is read, of y i are moved. -/
def RstI (w : World) (b5 : Nat) (A5 : Option Addr) (c5 : Nat) (L5 : List P.S39) (A6 : Option Addr) (L : List P.S39) (d i : Nat) (W : World) : Prop :=
  i ≤ L.length ∧ Below w.heap.size w W ∧ Kd.C P.k39 W A5 L5.length L5 ∧ (i = L.length → Kd.C P.k39 W A6 (L.map (lat d)).length (L.map (lat d))) ∧
    (0 < L.length → ∃ g, A6 = some ⟨g, 0, none⟩ ∧ w.heap.size ≤ g ∧ YRow W g L d i ∧ SegRow b5 W (fun b => b = g) (.slice A5 L5.length c5) L5)
theorem RstI.start {w W : World} {b5 b6 m : Nat} {A5 A6 : Option Addr} {c5 c6 : Nat} {L5 L : List P.S39} {d : Nat} {T T' : Nat → Prop} (hb : Below w.heap.size w W) (h5 : SegRow b5 W T (.slice A5 L5.length c5) L5) (h6 : SegRow b6 W T' (.slice A6 L.length c6) L)
    (hl5 : L5.length ≤ 1000000) (hl : L.length ≤ 1000000) (hw : w.heap.size ≤ b6) (h56 : ∀ k, (Value.slice A5 L5.length c5).ownBlock = some k → k < b6) : RstI w b5 A5 c5 L5 A6 L d 0 W := by
  refine ⟨Nat.zero_le _, hb, h5.C hl5, fun e => ?_, fun hp => ?_⟩
  · have : L = [] := List.length_eq_zero_iff.1 e.symm
    subst this
    exact h6.C (by simp)
  · obtain ⟨g, rfl, hg, hy⟩ := YRow.of_seg d h6 hp
    obtain ⟨cur, hcur⟩ := hy.1
    exact ⟨g, rfl, by omega, hy, h5.apart hcur (fun k hk e => by have := h56 k hk; omega)⟩
theorem RstI.next {w W : World} {b5 : Nat} {A5 A6 : Option Addr} {c5 : Nat} {L5 L : List P.S39} {d i : Nat} (h : RstI w b5 A5 c5 L5 A6 L d i W) (hl5 : L5.length ≤ 1000000) (hl : L.length ≤ 1000000) (hi : i < L.length) :
    ∃ g s, A6 = some ⟨g, 0, none⟩ ∧ L[i]? = some s ∧ W.cell? ⟨g, i * 4 + 3, none⟩ = some (.int .u64 s.f3) ∧ W.frozen? ⟨g, i * 4 + 3, none⟩ = false ∧ RstI w b5 A5 c5 L5 A6 L d (i + 1) (W.setCell ⟨g, i * 4 + 3, none⟩ (.int .u64 (s.f3 + d))) := by
  obtain ⟨h1, h2, h3, h4, h5⟩ := h
  obtain ⟨g, rfl, hg, hy, hs⟩ := h5 (by omega)
  have hk : L[i]? = some L[i] := List.getElem?_eq_getElem hi
  have hy2 := hy.set hk
  have hs2 : SegRow b5 (W.setCell ⟨g, i * 4 + 3, none⟩ (.int .u64 (L[i].f3 + d))) (fun b => b = g) (.slice A5 L5.length c5) L5 := hs.step (Stab.setT (T := fun b => b = g) (n := 0) (p := ⟨g, i * 4 + 3, none⟩) W rfl _) (fun b hb => .inl hb)
  exact ⟨g, L[i], rfl, hk, hy.cell hk, hy.frozen _, hi, h2.setCell hg _, hs2.C hl5, fun e => by rw [e] at hy2; exact hy2.C hl, fun _ => ⟨g, rfl, hg, hy2, hs2⟩⟩
end Go.Proofs.Ytmkhhnhoodneeaa
