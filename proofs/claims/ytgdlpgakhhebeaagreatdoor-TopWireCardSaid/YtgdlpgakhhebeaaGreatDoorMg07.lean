/- Part 7 of the proof of TopWire: Plain. -/
import Derived.Maps.AppendAt
import Derived.RangeFuncBox
import Derived.Test.YtgdlpgakhhebeaaGreatDoorMg00
import Derived.Test.YtgdlpgakhhebeaaGreatDoorMg03
import Derived.Test.YtgdlpgakhhebeaaGreatDoorMg06
set_option linter.unusedVariables false
namespace Go.Proofs.YtgdlpgakhhebeaaGreatDoor
open Go.RowKit Go.Proofs.YtgdlpgakhhebeaaGreatDoorW.PrintWords

theorem R_stab {α : Type} {d : Kd α} {e : Nat} {T : Nat → Prop} {n : Nat} {W W' : World} {base : Nat} {ok : Nat → Prop} {v : Value} {xs : List α} (h : d.R e W base ok v xs) (hs : Stab T n W W') (hT : ∀ k, ok k → ¬ T k) : d.R e W' base ok v xs :=
  Kd.R_mono (Kd.R_move (Kd.R_bound h) (fun k hk => by
    obtain ⟨h1, _, _, q, _, cells, hc⟩ := hk
    rw [hc]; exact hs.block hc (hT k h1) rfl)) (fun _ hk => hk.1)
theorem boxed_stab {T : Nat → Prop} {n : Nat} {W W' : World} {B : Nat} {t : TypeId} {v : Value} (h : Boxed W B t v) (hs : Stab T n W W') (hT : ¬ T B) : Boxed W' B t v := hs.block h hT rfl

theorem cell_al {w : World} {p : Addr} {v : Value} (h : w.cell? p = some v) (o : Obj) : (w.alloc o).cell? p = some v := pw_cell_below ((Below.refl _ w).alloc (Nat.le_refl _) o) h

section
variable {P : Program} {W : World} {base : Nat} {ok : Nat → Prop} {t e ty : TypeId} {z : Value} {bytes : Nat}

/-- append(v, x): x's cells lie in the block that has just been laid. -/
theorem run_app_one {α : Type} (d : Kd α) (ht : P.underlying t = some (.slice e)) (hinfo : (P.info? e).map (fun i => (i.zero, i.size, i.bytes)) = some (some z, d.sz, bytes)) (hz : z.cells.size = d.sz) (hs0 : 0 < d.sz) (hb0 : 0 < bytes)
    {v : Value} {xs : List α} {p : α} {cs : List Value} {okp : Nat → Prop} (HO : d.R e W base ok v xs) (hp : d.M W base okp p cs) (hokp : ∀ k, okp k → ok k ∧ some k ≠ v.ownBlock) (hfresh : ∀ k, W.heap.size ≤ k → ok k) (hbase : base ≤ W.heap.size) (hl : (xs.length + 1) * bytes ≤ 140737488355328) :
    ∃ v1 w1, (Builtin.append_ #[t, t] ty #[v, .slice (some ⟨W.heap.size, 0, none⟩) 1 1]).run P (W.alloc (.cells cs.toArray e)) = .ok v1 w1 ∧ d.R e w1 base ok v1 (xs ++ [p]) ∧ W.grownBy w1 v.ownBlock ∧ (v1.ownBlock = v.ownBlock ∨ ∃ b, v1.ownBlock = some b ∧ W.heap.size ≤ b) := by
  obtain ⟨h0, inner, hown, hr⟩ := HO
  obtain ⟨i0, hi, hzz⟩ := Option.map_eq_some_iff.1 hinfo
  simp only [Prod.mk.injEq] at hzz
  obtain ⟨hz0, hz1, hz2⟩ := hzz
  have hlen : xs.length + 1 ≤ 140737488355328 := Nat.le_trans (Nat.le_mul_of_pos_right _ hb0) hl
  obtain ⟨v1, w1, hrun, h1, hg, _, hat⟩ := run_append_own_at (P := P) (W.alloc (.cells cs.toArray e)) base t ty e i0 z d.sz bytes ht hi hz0 hz1 hz2 hz hs0 v xs.length inner (hown.alloc _) ⟨W.heap.size, 0, none⟩ 1 1 cs (by rw [d.K_len (d.K_of_M hp), Nat.one_mul])
    (World.news_of_block (cs := cs.toArray) (t := e) (fr := (0, 0)) (heap_alloc_new W _)) (d.K_one (d.K_of_M hp)) (by simp only [maxLen]; omega) hl (by simp; omega)
  have hg' : W.grownBy w1 v.ownBlock := World.grownBy.trans (World.grownBy_alloc W _ _) hg
  have hat' : v1.ownBlock = v.ownBlock ∨ ∃ b, v1.ownBlock = some b ∧ W.heap.size ≤ b := hat.imp id (fun h => ⟨_, h, by simp⟩)
  exact ⟨v1, w1, hrun, Kd.R_appended h0 hr hp hokp hfresh h1 hg' hat', hg', hat'⟩

/-- append(v, ys...): ys a slice of whole numbers that is read; nil let in. -/
theorem run_app_row (k : IntKind) (ht : P.underlying t = some (.slice e)) (hinfo : (P.info? e).map (fun i => (i.zero, i.size, i.bytes)) = some (some (.int k 0), 1, bytes)) (hb0 : 0 < bytes)
    {v : Value} {xs ys : List Int} {A : Option Addr} {m c : Nat} (HO : (Kd.int k).R e W base ok v xs) (HC : (Kd.int k).C W A m ys) (hfresh : ∀ k, W.heap.size ≤ k → ok k) (hbase : base ≤ W.heap.size) (hl : (xs.length + m) * bytes ≤ 140737488355328) :
    ∃ v1 w1, (Builtin.append_ #[t, t] ty #[v, .slice A m c]).run P W = .ok v1 w1 ∧ (Kd.int k).R e w1 base ok v1 (xs ++ ys) ∧ W.grownBy w1 v.ownBlock ∧ (v1.ownBlock = v.ownBlock ∨ ∃ b, v1.ownBlock = some b ∧ W.heap.size ≤ b) := by
  obtain ⟨i0, hi, hzz⟩ := Option.map_eq_some_iff.1 hinfo
  simp only [Prod.mk.injEq] at hzz
  obtain ⟨hz0, hz1, hz2⟩ := hzz
  have hm : ys.length = m := HC.1
  have hlen : xs.length + m ≤ 140737488355328 := Nat.le_trans (Nat.le_mul_of_pos_right _ hb0) hl
  have h0 := HO.1
  have HO' : W.ownsRow base e 1 v xs.length (nums k xs) := Kd.own_of_R HO
  rcases A with _ | ad
  · have h0m : m = 0 := by
      rcases Nat.eq_zero_or_pos m with h0 | h0
      · exact h0
      · obtain ⟨ad, h, _⟩ := HC.2.2 h0
        cases h
    subst h0m
    obtain rfl : ys = [] := List.eq_nil_of_length_eq_zero hm
    refine ⟨v, W, ?_, by simpa using HO, World.grownBy.refl W _, .inl rfl⟩
    rcases HO'.2 with ⟨rfl, hn⟩ | ⟨g, cap, cur, rfl, _, _, hnc, _⟩
    · simp [Builtin.append_, run_underlying ht, sizeOf, typeInfo, hi, Builtin.lenOf, Builtin.firstCells]
    · simp [Builtin.append_, run_underlying ht, sizeOf, typeInfo, hi, Builtin.lenOf, Builtin.firstCells, hnc, storeCells]
  · have hcells : ∀ j u, (nums k ys)[j]? = some u → W.cell? (ad.add j) = some u := by
      intro j u hu
      have hj : j < ys.length := by
        have := (List.getElem?_eq_some_iff.1 hu).1
        rwa [nums_length] at this
      obtain ⟨ad', c', e', hc1, hc2, hc3⟩ := Kd.C_get HC 0 (j : Int) (by omega) (by omega)
      cases e'
      have e2 : c' = [Value.int k (ys.getD j 0)] := by simpa [Kd.int, Kd.scalar] using hc2
      subst e2
      have := hc3 0 _ rfl
      rw [show ((j : Int)).toNat * (Kd.int k).sz + 0 = j by simp [Kd.int, Kd.scalar]] at this
      rw [this, ← hu]
      simp [nums, List.getD_eq_getElem?_getD, List.getElem?_eq_getElem hj]
    obtain ⟨v1, w1, hrun, h1, hg, _, hat⟩ := run_append_own_at (P := P) W base t ty e i0 (.int k 0) 1 bytes ht hi hz0 hz1 hz2 rfl (by omega) v xs.length (nums k xs) HO' ad m c (nums k ys) (by rw [nums_length, hm, Nat.mul_one]) hcells
      (by intro u hu; obtain ⟨x, _, rfl⟩ := List.mem_map.1 hu; rfl) (by simp only [maxLen]; omega) hl hbase
    have hat' : v1.ownBlock = v.ownBlock ∨ ∃ b, v1.ownBlock = some b ∧ W.heap.size ≤ b := hat.imp id (fun h => ⟨_, h, Nat.le_refl _⟩)
    refine ⟨v1, w1, hrun, Kd.R_of_own ?_ (fun k hk => ?_), hg, hat'⟩
    · rw [← nums_append, ← hm, ← List.length_append] at h1
      exact h1
    · rcases hat' with h | ⟨b, hb, hle⟩
      · exact h0 k (h ▸ hk)
      · rw [hb] at hk; cases hk; exact hfresh _ hle
end
section
variable {F : Fence} {n : Nat} {P : Program} {ops : Array Oper} {Q : Exit → Act → World → Prop} {a : Act} {w w1 : World} {rest : List Oper} {o : Oper} {v1 : Value}
/-- An append whose run is known: the walk's step, in a fence and outside. -/
theorem runIn_app (s x : Operand) (t : TypeId) (hw : Region.wanted o (yielded ops a.tmps) = true) (hop : o.op = .call { callee := .builtin .append, args := #[s, x], argTypes := #[t, t] })
    (hrun : (Builtin.append_ #[t, t] o.type #[a.eval s, a.eval x]).run P w = .ok v1 w1) (h : wpListIn F n P ops Q rest (a.put o.dst v1) w1) : wpListIn F n P ops Q (o :: rest) a w := by
  unfold wpListIn
  rw [if_pos hw]
  unfold Oper.wpIn
  refine ⟨by simp [Oper.about, hop, resolve, Target.leads, Sem.run_pure], ?_⟩
  rw [Oper.semAt_plain F _ _ (by rw [hop]; intro c hc'; cases hc')]
  simp [execOp, hop, resolve, invoke, builtin, hrun, Result.andThen]
  exact h
theorem run_app (s x : Operand) (t : TypeId) (hw : Region.wanted o (yielded ops a.tmps) = true) (hop : o.op = .call { callee := .builtin .append, args := #[s, x], argTypes := #[t, t] })
    (hrun : (Builtin.append_ #[t, t] o.type #[a.eval s, a.eval x]).run P w = .ok v1 w1) (h : wpList P ops Q rest (a.put o.dst v1) w1) : wpList P ops Q (o :: rest) a w := by
  unfold wpList
  rw [if_pos hw]
  refine .inl ?_
  unfold Oper.wp
  simp [execOp, hop, resolve, invoke, builtin, hrun, Result.andThen]
  exact h
end
/-- The same in a region that draws its order. -/
theorem step_app {P : Program} {ops : Array Oper} {Q : Exit → Act → World → Prop} {Kc : Act → World → Prop} {a : Act} {w w1 : World} {o : Oper} {v1 : Value} (s x : Operand) (t : TypeId) (hw : Region.wanted o (yielded ops a.tmps) = true) (hop : o.op = .call { callee := .builtin .append, args := #[s, x], argTypes := #[t, t] })
    (hrun : (Builtin.append_ #[t, t] o.type #[a.eval s, a.eval x]).run P w = .ok v1 w1) (h : Kc (a.put o.dst v1) w1) : if Region.wanted o (yielded ops a.tmps) = true then Oper.wp P o a w Kc Q else Kc (a.put o.dst undef) w := by
  rw [if_pos hw]
  unfold Oper.wp
  simp [execOp, hop, resolve, invoke, builtin, hrun, Result.andThen]
  exact h
/-- A fresh literal []byte{}, []T{}. -/
theorem R_empty {α : Type} (d : Kd α) (e : Nat) (W : World) (base : Nat) (hb : base ≤ W.heap.size) (ok : Nat → Prop) (hok : ok W.heap.size) : d.R e (W.alloc (.cells #[] e)) base ok (.slice (some ⟨W.heap.size, 0, none⟩) 0 0) [] :=
  ⟨fun k hk => by simp [Value.ownBlock] at hk; rw [← hk]; exact hok, [], World.ownsRow_lit W #[] 0 hb (by simp [maxLen]) (by simp), by simp, fun j p h => by simp at h⟩

theorem books_row {W w1 : World} {v : Value} {e : TypeId} (hg : W.grownBy w1 v.ownBlock) (ht : ∀ k, v.ownBlock = some k → ∃ cells, W.heap[k]? = some (.cells cells e (0, 0))) : Books W w1 :=
  Books.grown hg (fun k o hk ho => by obtain ⟨c, hc⟩ := ht k hk; rw [hc] at ho; cases ho; rfl)
theorem boxed_app {W w1 : World} {B : Nat} {t : TypeId} {u v : Value} (h : Boxed W B t u) (hg : W.grownBy w1 v.ownBlock) (hne : ∀ k, v.ownBlock = some k → k ≠ B) : Boxed w1 B t u :=
  h.kept hg (fun e => hne B e.symm rfl)
theorem below_app {W w1 w : World} {v : Value} {m : Nat} (h : Below m w W) (hg : W.grownBy w1 v.ownBlock) (hm : m ≤ W.heap.size) (hb : ∀ k, v.ownBlock = some k → m ≤ k) : Below m w w1 := h.grown hg hm hb
end Go.Proofs.YtgdlpgakhhebeaaGreatDoor
