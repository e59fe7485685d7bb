/- scan: Feed. -/
import Derived.Test.YtmkhhnhoodneeaaEac
set_option linter.unusedVariables false
set_option linter.unusedSimpArgs false
namespace Go.Proofs.Ytmkhhnhoodneeaa
open Go.RowKit Go.Proofs.YtmkhhnhoodneeaaW.PrintWords Go.Proofs.YtmkhhnhoodneeaaW.PrintMore
attribute [local go_sem] Oper.semAt_some

theorem infoS : (Try.prog.info? 39).map (fun i => (i.zero, i.size, i.bytes)) = some (some (.agg #[.slice none 0 0, .bool false, .int .i64 0, .int .u64 0]), 4, 48) := by kernel_rfl
/-- A segment's cells. -/
def segC (A : Option Addr) (s : P.S39) : List Value := [.slice A s.f0.length s.f0.length, .bool s.f1, .int .i64 s.f2, .int .u64 s.f3]
/-- A row of the call's own, of segments whose bytes are only read, and lie in none of T. -/
def SegRow (base : Nat) (W : World) (T : Nat → Prop) (v : Value) (L : List P.S39) : Prop :=
  (∀ b, v.ownBlock = some b → ¬ T b) ∧ ∃ rows : List (List Value), rows.length = L.length ∧ (Kd.raw 4).R 39 W base (fun _ => True) v rows ∧ ∀ (j : Nat) (s : P.S39), L[j]? = some s → ∃ A, rows[j]? = some (segC A s) ∧ BytesT W T A s.f0
theorem SegRow.nil (base : Nat) (W : World) (T : Nat → Prop) : SegRow base W T (.slice none 0 0) [] := ⟨fun b h => by simp [Value.ownBlock] at h, [], rfl, Kd.R_nil _ _ _ _ _, fun j xs h => by simp at h⟩
theorem SegRow.step {base : Nat} {W W' : World} {T T' : Nat → Prop} {v : Value} {L : List P.S39} {n : Nat} (h : SegRow base W T v L) (hs : Stab T n W W') (hT : ∀ b, T' b → T b ∨ W.heap.size ≤ b) : SegRow base W' T' v L := by
  obtain ⟨h0, rows, hl, hR, hf⟩ := h
  have hty := Kd.R_typed hR
  have hlt := Kd.R_lt hR
  refine ⟨fun b hb ht => ?_, rows, hl, ?_, fun j s hj => ?_⟩
  · rcases hT b ht with h | h
    · exact h0 b hb h
    · have := hlt b hb; omega
  · obtain ⟨h1, inner, hown, hr⟩ := hR
    exact ⟨h1, inner, own_move hown (fun k hk => by obtain ⟨cells, hc⟩ := hty k hk; rw [hc]; exact hs.block hc (h0 k hk) rfl), hr⟩
  · obtain ⟨A, h1, h2⟩ := hf j s hj
    refine ⟨A, h1, ?_⟩
    exact Kd.F_mono (Kd.F_step (Kd.F_bound h2) (fun k hk hlt => by obtain ⟨⟨⟨cells, hc⟩, hn⟩, _⟩ := hk; rw [hc]; exact hs.block hc hn rfl)) (fun k hk => by
      obtain ⟨⟨⟨cells, hc⟩, hn⟩, hlt⟩ := hk
      exact ⟨⟨cells, hs.block hc hn rfl⟩, fun h => by rcases hT k h with h | h; exact hn h; omega⟩)
theorem SegRow.slice {base : Nat} {W : World} {T : Nat → Prop} {v : Value} {L : List P.S39} (h : SegRow base W T v L) : ∃ A c, v = .slice A L.length c := by
  obtain ⟨h0, rows, hl, hR, hf⟩ := h
  rw [← hl]
  exact Kd.R_slice hR
theorem BytesT.grown {W W1 : World} {T : Nat → Prop} {A : Option Addr} {xs : List Int} {v : Value} (h : BytesT W T A xs) (hg : W.grownBy W1 v.ownBlock) (ht : ∀ k, v.ownBlock = some k → ∃ cells, W.heap[k]? = some (Obj.cells cells 39 (0, 0))) (hT : ∀ b, T b → b < W.heap.size) : BytesT W1 T A xs :=
  Kd.F_mono (Kd.F_step (Kd.F_bound h) (fun k hk hlt => hg.block k hlt (fun e => by
    obtain ⟨⟨⟨cells, hc⟩, hn⟩, _⟩ := hk
    obtain ⟨c2, h2⟩ := ht k e.symm
    rw [hc] at h2; cases h2))) (fun k hk => by
    obtain ⟨⟨⟨cells, hc⟩, hn⟩, hlt⟩ := hk
    refine ⟨⟨cells, (hg.block k hlt (fun e => ?_)).trans hc⟩, hn⟩
    obtain ⟨c2, h2⟩ := ht k e.symm
    rw [hc] at h2; cases h2)
theorem SegRow.append {base : Nat} {W : World} {T : Nat → Prop} {v : Value} {L : List P.S39} {A : Option Addr} {s : P.S39} (h : SegRow base W T v L) (hx : BytesT W T A s.f0) (hbase : base ≤ W.heap.size) (hl : L.length ≤ 1000000) (hT : ∀ b, T b → b < W.heap.size) :
    ∃ v1 w1, (Builtin.append_ #[28, 28] 28 #[v, .slice (some ⟨W.heap.size, 0, none⟩) 1 1]).run Try.prog (W.alloc (.cells #[.slice A s.f0.length s.f0.length, .bool s.f1, .int .i64 s.f2, .int .u64 s.f3] 39)) = .ok v1 w1 ∧ SegRow base w1 T v1 (L ++ [s]) ∧ W.grownBy w1 v.ownBlock ∧ (v1.ownBlock = v.ownBlock ∨ ∃ b, v1.ownBlock = some b ∧ W.heap.size ≤ b) := by
  obtain ⟨h0, rows, hlr, hR, hf⟩ := h
  have ht := Kd.R_typed hR
  obtain ⟨v1, w1, hrun, hR1, hg, hat⟩ := run_app_one (P := Try.prog) (t := 28) (e := 39) (ty := 28) (z := .agg #[.slice none 0 0, .bool false, .int .i64 0, .int .u64 0]) (bytes := 48) (p := segC A s) (cs := segC A s) (okp := fun _ => False) (ok := fun _ => True) (Kd.raw 4) Try.underlying28 infoS rfl (by decide) (by decide) hR ⟨rfl, rfl, by simp [segC, Value.oneCell']⟩ (fun _ h => h.elim) (fun _ _ => trivial) hbase (by rw [hlr]; omega)
  refine ⟨v1, w1, hrun, ⟨fun b hb htb => ?_, rows ++ [segC A s], by simp [hlr], hR1, fun j ys hj => ?_⟩, hg, hat⟩
  · rcases hat with h | ⟨b', h, hle⟩
    · exact h0 b (h ▸ hb) htb
    · rw [h] at hb; cases hb; have := hT _ htb; omega
  · rcases Nat.lt_or_ge j L.length with hlt | hge
    · rw [List.getElem?_append_left hlt] at hj
      obtain ⟨A', h1, h2⟩ := hf j ys hj
      exact ⟨A', by rw [List.getElem?_append_left (by omega)]; exact h1, h2.grown hg ht hT⟩
    · rw [List.getElem?_append_right hge] at hj
      have hj0 : j - L.length = 0 := by
        rcases Nat.eq_zero_or_pos (j - L.length) with h | h
        · exact h
        · rw [List.getElem?_eq_none (by simp; omega)] at hj; cases hj
      rw [hj0] at hj
      cases hj
      exact ⟨A, by rw [List.getElem?_append_right (by omega), hlr, hj0]; rfl, hx.grown hg ht hT⟩
end Go.Proofs.Ytmkhhnhoodneeaa
