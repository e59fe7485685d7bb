/- Rows of rows of bytes whose inner rows are only read: appended to, grown beside. -/
import Derived.Test.YtnflobldekhjbaaPx1
import Derived.Test.YtnflobldekhjbaaPlain2
set_option linter.unusedVariables false
namespace Go.Proofs.Ytnflobldekhjbaa
open Go.RowKit Go.Proofs.YtnflobldekhjbaaW.PrintWords

/-- Bytes that are only read; they lie in blocks of bytes. -/
def Bytes5 (W : World) (A : Option Addr) (xs : List Int) : Prop := Kd.F (Kd.int .u8) W (fun k => ∃ cells : Array Value, W.heap[k]? = some (Obj.cells cells 5 (0, 0))) A xs.length xs
/-- A row of the call's own, of rows of bytes that are only read. -/
def RW (base : Nat) (W : World) (v : Value) (xss : List (List Int)) : Prop :=
  ∃ rows : List (List Value), rows.length = xss.length ∧ (Kd.raw 1).R 22 W base (fun _ => True) v rows ∧ ∀ (j : Nat) (xs : List Int), xss[j]? = some xs → ∃ A c, rows[j]? = some [.slice A xs.length c] ∧ xs.length ≤ c ∧ Bytes5 W A xs

theorem Bytes5.of_R {W : World} {base : Nat} {ok : Nat → Prop} {A : Option Addr} {n c : Nat} {xs : List Int} (h : (Kd.int .u8).R 5 W base ok (.slice A n c) xs) : n = xs.length ∧ n ≤ c ∧ Bytes5 W A xs := by
  have hr := Kd.R_reads' h
  refine ⟨hr.1, hr.2.1, ?_⟩
  have h2 := Kd.R_F (Kd.R_bound h)
  rw [hr.1] at h2
  refine Kd.F_mono h2 ?_
  rintro k ⟨_, _, _, q, hq, cells, hc⟩
  have : q = 5 := by simpa [Kd.int, Kd.scalar] using hq
  subst this
  exact ⟨cells, hc⟩
theorem Bytes5.step {W W1 : World} {A : Option Addr} {xs : List Int} (h : Bytes5 W A xs) (hm : ∀ k : Nat, (∃ cells : Array Value, W.heap[k]? = some (Obj.cells cells 5 (0, 0))) → W1.heap[k]? = W.heap[k]?) : Bytes5 W1 A xs :=
  Kd.F_mono (Kd.F_step h (fun k hk _ => hm k hk)) (fun k hk => by
    have := hm k hk
    obtain ⟨cells, hc⟩ := hk
    exact ⟨cells, this.trans hc⟩)
theorem Bytes5.below {W W1 : World} {A : Option Addr} {xs : List Int} (h : Bytes5 W A xs) (hb : Below W.heap.size W W1) : Bytes5 W1 A xs :=
  h.step (fun k hk => by obtain ⟨cells, hc⟩ := hk; exact hb.block k (Array.getElem?_eq_some_iff.1 hc).1)
theorem Bytes5.grown {W W1 : World} {A : Option Addr} {xs : List Int} {v : Value} (h : Bytes5 W A xs) (hg : W.grownBy W1 v.ownBlock) (ht : ∀ k, v.ownBlock = some k → ∃ cells, W.heap[k]? = some (Obj.cells cells 22 (0, 0))) : Bytes5 W1 A xs :=
  h.step (fun k hk => by
    obtain ⟨cells, hc⟩ := hk
    refine hg.block k (Array.getElem?_eq_some_iff.1 hc).1 (fun e => ?_)
    obtain ⟨c2, h2⟩ := ht k e.symm
    rw [hc] at h2; cases h2)
theorem Bytes5.nil (W : World) : Bytes5 W none [] := Kd.F_nil _ _ _
theorem Bytes5.now {W : World} {A : Option Addr} {xs : List Int} (h : Bytes5 W A xs) : (Kd.int .u8).C W A xs.length xs := Kd.F_now h

theorem RW.nil (base : Nat) (W : World) : RW base W (.slice none 0 0) [] := ⟨[], rfl, Kd.R_nil _ _ _ _ _, fun j xs h => by simp at h⟩
theorem RW.below {base : Nat} {W W1 : World} {v : Value} {xss : List (List Int)} (h : RW base W v xss) (hb : Below W.heap.size W W1) : RW base W1 v xss := by
  obtain ⟨rows, hl, hR, hf⟩ := h
  exact ⟨rows, hl, Kd.R_below hR hb, fun j xs hj => by obtain ⟨A, c, h1, h2, h3⟩ := hf j xs hj; exact ⟨A, c, h1, h2, h3.below hb⟩⟩
theorem RW.typed {base : Nat} {W : World} {v : Value} {xss : List (List Int)} (h : RW base W v xss) : ∀ k, v.ownBlock = some k → ∃ cells, W.heap[k]? = some (Obj.cells cells 22 (0, 0)) := by
  obtain ⟨rows, hl, hR, hf⟩ := h
  exact Kd.R_typed hR
theorem RW.base_ {base : Nat} {W : World} {v : Value} {xss : List (List Int)} (h : RW base W v xss) : ∀ k, v.ownBlock = some k → base ≤ k := by
  obtain ⟨rows, hl, hR, hf⟩ := h
  exact Kd.R_base hR
theorem RW.lt {base : Nat} {W : World} {v : Value} {xss : List (List Int)} (h : RW base W v xss) : ∀ k, v.ownBlock = some k → k < W.heap.size := by
  obtain ⟨rows, hl, hR, hf⟩ := h
  exact Kd.R_lt hR
/-- Another row of rows has grown. -/
theorem RW.other {base : Nat} {W W1 : World} {u v : Value} {xss : List (List Int)} (h : RW base W u xss) (hg : W.grownBy W1 v.ownBlock) (ht : ∀ k, v.ownBlock = some k → ∃ cells, W.heap[k]? = some (Obj.cells cells 22 (0, 0))) (hne : ∀ k, u.ownBlock = some k → v.ownBlock ≠ some k) : RW base W1 u xss := by
  obtain ⟨rows, hl, hR, hf⟩ := h
  refine ⟨rows, hl, ?_, fun j xs hj => by obtain ⟨A, c, h1, h2, h3⟩ := hf j xs hj; exact ⟨A, c, h1, h2, h3.grown hg ht⟩⟩
  obtain ⟨h0, inner, hown, hr⟩ := hR
  refine ⟨h0, inner, own_move hown (fun k hk => hg.block k (own_lt hown k hk) (fun e => hne k hk e.symm)), hr⟩
theorem RW.slice {base : Nat} {W : World} {v : Value} {xss : List (List Int)} (h : RW base W v xss) : ∃ A c, v = .slice A xss.length c := by
  obtain ⟨rows, hl, hR, hf⟩ := h
  rw [← hl]
  exact Kd.R_slice hR
theorem RW.reads {base : Nat} {W : World} {v : Value} {xss : List (List Int)} (h : RW base W v xss) : ∃ A c, v = .slice A xss.length c ∧ xss.length ≤ c ∧ (Kd.slice 5 (Kd.int .u8)).C W A xss.length xss := by
  obtain ⟨rows, hl, hR, hf⟩ := h
  obtain ⟨A, c, rfl, hc, hC⟩ := Kd.R_reads hR
  rw [hl] at hc hC ⊢
  refine ⟨A, c, rfl, hc, rfl, hC.2.1, fun hp => ?_⟩
  obtain ⟨ad, e, hcc⟩ := hC.2.2 hp
  refine ⟨ad, e, fun j p hj => ?_⟩
  obtain ⟨A', c', h1, h2, h3⟩ := hf j p hj
  obtain ⟨cs, q1, q2, q3⟩ := hcc j _ h1
  refine ⟨cs, q1, ?_, q3⟩
  rw [q2.1]
  exact ⟨A', c', rfl, h2, h3.now⟩
/-- append(v, xs): xs only read. -/
theorem RW.append {base : Nat} {W : World} {v : Value} {xss : List (List Int)} {A : Option Addr} {n c : Nat} {xs : List Int} (h : RW base W v xss) (hn : n = xs.length) (hc : n ≤ c) (hx : Bytes5 W A xs) (hbase : base ≤ W.heap.size) (hl : xss.length ≤ 1000000) :
    ∃ v1 w1, (Builtin.append_ #[23, 23] 23 #[v, .slice (some ⟨W.heap.size, 0, none⟩) 1 1]).run Try.prog (W.alloc (.cells #[.slice A n c] 22)) = .ok v1 w1 ∧ RW base w1 v1 (xss ++ [xs]) ∧ W.grownBy w1 v.ownBlock ∧ (v1.ownBlock = v.ownBlock ∨ ∃ b, v1.ownBlock = some b ∧ W.heap.size ≤ b) := by
  subst hn
  have ht := h.typed
  obtain ⟨rows, hlr, hR, hf⟩ := h
  obtain ⟨v1, w1, hrun, hR1, hg, hat⟩ := run_app_one (P := Try.prog) (t := 23) (e := 22) (ty := 23) (z := .slice none 0 0) (bytes := 24) (p := [Value.slice A xs.length c]) (cs := [.slice A xs.length c]) (okp := fun _ => False) (ok := fun _ => True) (Kd.raw 1) Try.underlying23 P.info22 rfl (by decide) (by decide) hR ⟨rfl, rfl, by simp [Value.oneCell']⟩ (fun _ h => h.elim) (fun _ _ => trivial) hbase (by rw [hlr]; omega)
  refine ⟨v1, w1, hrun, ⟨rows ++ [[.slice A xs.length c]], by simp [hlr], hR1, fun j ys hj => ?_⟩, hg, hat⟩
  rcases Nat.lt_or_ge j xss.length with hlt | hge
  · rw [List.getElem?_append_left hlt] at hj
    obtain ⟨A', c', h1, h2, h3⟩ := hf j ys hj
    exact ⟨A', c', by rw [List.getElem?_append_left (by omega)]; exact h1, h2, h3.grown hg ht⟩
  · rw [List.getElem?_append_right hge] at hj
    have hj0 : j - xss.length = 0 := by
      rcases Nat.eq_zero_or_pos (j - xss.length) with h | h
      · exact h
      · rw [List.getElem?_eq_none (by simp; omega)] at hj; cases hj
    rw [hj0] at hj
    cases hj
    exact ⟨A, c, by rw [List.getElem?_append_right (by omega), hlr, hj0]; rfl, hc, hx.grown hg ht⟩
end Go.Proofs.Ytnflobldekhjbaa
