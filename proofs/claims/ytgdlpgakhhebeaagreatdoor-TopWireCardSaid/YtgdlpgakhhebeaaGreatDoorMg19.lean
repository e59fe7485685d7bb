/- Part 19 of the proof of TopWire: Rws, Cln, Mcp. -/
import Derived.Test.YtgdlpgakhhebeaaGreatDoorMg08
import Derived.Test.YtgdlpgakhhebeaaGreatDoorMg18
section
set_option linter.unusedVariables false
namespace Go.Proofs.YtgdlpgakhhebeaaGreatDoor
open Go.RowKit Go.Proofs.YtgdlpgakhhebeaaGreatDoorW.PrintWords

theorem run_app_flat {α : Type} {P : Program} {W : World} {base : Nat} {ok : Nat → Prop} {t e ty : TypeId} {z : Value} {bytes : Nat} (d : Kd α) (hflat : ∀ {w x cs}, d.K w x cs → ∀ w1 base ok, d.M w1 base ok x cs)
    (ht : P.underlying t = some (.slice e)) (hinfo : (P.info? e).map (fun i => (i.zero, i.size, i.bytes)) = some (some z, d.sz, bytes)) (hz : z.cells.size = d.sz) (hs0 : 0 < d.sz) (hb0 : 0 < bytes)
    {v : Value} {xs ys : List α} {A : Option Addr} {m c : Nat} (HO : d.R e W base ok v xs) (HC : d.C W A m ys) (hfresh : ∀ k, W.heap.size ≤ k → ok k) (hbase : base ≤ W.heap.size) (hl : (xs.length + m) * bytes ≤ 140737488355328) :
    ∃ v1 w1, (Builtin.append_ #[t, t] ty #[v, .slice A m c]).run P W = .ok v1 w1 ∧ d.R e w1 base ok v1 (xs ++ ys) ∧ W.grownBy w1 v.ownBlock ∧ (v1.ownBlock = v.ownBlock ∨ ∃ b, v1.ownBlock = some b ∧ W.heap.size ≤ b) := by
  obtain ⟨i0, hi, hzz⟩ := Option.map_eq_some_iff.1 hinfo
  simp only [Prod.mk.injEq] at hzz
  obtain ⟨hz0, hz1, hz2⟩ := hzz
  have hm : ys.length = m := HC.1
  have hlen : xs.length + m ≤ 140737488355328 := Nat.le_trans (Nat.le_mul_of_pos_right _ hb0) hl
  have HO' := HO
  obtain ⟨hok, inner, hown, hr⟩ := HO
  rcases A with _ | ad
  · have h0m : m = 0 := by
      rcases Nat.eq_zero_or_pos m with h0 | h0
      · exact h0
      · obtain ⟨ad, h, _⟩ := HC.2.2 h0
        cases h
    subst h0m
    obtain rfl : ys = [] := List.eq_nil_of_length_eq_zero hm
    refine ⟨v, W, ?_, by rw [List.append_nil]; exact HO', World.grownBy.refl W _, .inl rfl⟩
    rcases hown.2 with ⟨rfl, hn⟩ | ⟨g, cap, cur, rfl, _, _, hnc, _⟩
    · simp [Builtin.append_, run_underlying ht, sizeOf, typeInfo, hi, Builtin.lenOf, Builtin.firstCells]
    · simp [Builtin.append_, run_underlying ht, sizeOf, typeInfo, hi, Builtin.lenOf, Builtin.firstCells, hnc, storeCells]
  · obtain ⟨news, hnr, hnc⟩ := ReadsRow.inner_ HC
    have hone : ∀ u ∈ news, u.oneCell' = true := by
      intro u hu
      obtain ⟨q, hq, rfl⟩ := List.mem_iff_getElem.1 hu
      have hql : q / d.sz < ys.length := by rw [Nat.div_lt_iff_lt_mul hs0, ← hnr.1]; exact hq
      refine d.K_one (hnr.2 (q / d.sz) _ (List.getElem?_eq_getElem hql)) _ ?_
      rw [List.mem_iff_getElem?]
      exact ⟨q % d.sz, by rw [List.getElem?_take, if_pos (Nat.mod_lt _ hs0), List.getElem?_drop, Nat.mul_comm, Nat.div_add_mod, List.getElem?_eq_getElem hq]⟩
    obtain ⟨v1, w1, hrun, h2, hg, _, hat⟩ := run_append_own_at (P := P) W base t ty e i0 z d.sz bytes ht hi hz0 hz1 hz2 hz hs0 v xs.length inner hown ad m c news (by rw [hnr.1, hm]) hnc hone (by simp only [maxLen]; omega) hl hbase
    have hat' : v1.ownBlock = v.ownBlock ∨ ∃ b, v1.ownBlock = some b ∧ W.heap.size ≤ b := hat.imp id (fun h => ⟨_, h, Nat.le_refl _⟩)
    refine ⟨v1, w1, hrun, ⟨fun k hk => ?_, inner ++ news, by rw [List.length_append, hm]; exact h2, Kd.reps_append (hr.imp_ (fun p c hp => hflat (d.K_of_M hp) _ _ _)) (hnr.imp_ (fun p c hp => hflat hp _ _ _))⟩, hg, hat'⟩
    rcases hat' with h | ⟨b, hb, hle⟩
    · exact hok k (h ▸ hk)
    · rw [hb] at hk; cases hk; exact hfresh _ hle
end Go.Proofs.YtgdlpgakhhebeaaGreatDoor
end
section
set_option linter.unusedVariables false
set_option linter.unusedSimpArgs false
namespace Go.Proofs.YtgdlpgakhhebeaaGreatDoor
open Go.RowKit Go.Proofs.YtgdlpgakhhebeaaGreatDoorW.PrintWords Go.Proofs.YtgdlpgakhhebeaaGreatDoorW.PrintMore
attribute [local go_sem] Oper.semAt_some

theorem eql67_some (ad : Addr) (n c : Nat) (w : World) : (binOp .eql 67 (.slice (some ad) n c) (.slice none 0 0)).run Tryz.prog w = .ok (.bool false) w := by kernel_rfl
theorem eql67_none (n c : Nat) (w : World) : (binOp .eql 67 (.slice none n c) (.slice none 0 0)).run Tryz.prog w = .ok (.bool true) w := by kernel_rfl
theorem eql26_some (ad : Addr) (n c : Nat) (w : World) : (binOp .eql 26 (.slice (some ad) n c) (.slice none 0 0)).run Tryz.prog w = .ok (.bool false) w := by kernel_rfl
theorem eql26_none (n c : Nat) (w : World) : (binOp .eql 26 (.slice none n c) (.slice none 0 0)).run Tryz.prog w = .ok (.bool true) w := by kernel_rfl
attribute [local go_sem] eql67_some eql67_none eql26_some eql26_none
theorem info217 : (Tryz.prog.info? 217).map (fun i => (i.zero, i.size, i.bytes)) = some (some (.agg #[.int .i64 0, .int .i64 0]), 2, 16) := by kernel_rfl
theorem info3 : (Tryz.prog.info? 3).map (fun i => (i.zero, i.size, i.bytes)) = some (some (.int .i64 0), 1, 8) := by kernel_rfl
theorem under67 : Tryz.prog.underlying 67 = some (.slice 217) := by kernel_rfl
theorem under26 : Tryz.prog.underlying 26 = some (.slice 3) := by kernel_rfl
theorem flat217 {w : World} {x : P.S217} {cs : List Value} (h : P.k217.K w x cs) (w1 : World) (base : Nat) (ok : Nat → Prop) : P.k217.M w1 base ok x cs := by
  obtain rfl := P.k217_open h
  exact P.k217_mkM w1 base ok x
set_option maxRecDepth 100000 in
set_option maxHeartbeats 2000000 in
theorem clonePts_call (w : World) (A : Option Addr) (c : Nat) (xs : List P.S217) (hA : Kd.C P.k217 w A xs.length xs) (hl : xs.length ≤ 1000000) : Calls Tryz.prog 88 #[.slice A xs.length c] w fun e w' => ∃ v, e = .returned v ∧ Kd.R P.k217 217 w' w.heap.size (fun _ => True) v xs ∧ Below w.heap.size w w' := by
  rcases A with _ | ad
  · have h0 : xs = [] := by
      rcases Nat.eq_zero_or_pos xs.length with h0 | h0
      · exact List.eq_nil_of_length_eq_zero h0
      · obtain ⟨ad, h, _⟩ := hA.2.2 h0
        cases h
    subst h0
    go_enter Tryz.func88, Tryz.ntmps88
    go_wp2_with (fail)
    go_ret
    exact ⟨_, rfl, Kd.R_nil _ _ _ _ _, Below.refl _ _⟩
  · have bX : Below w.heap.size w (w.alloc (.cells #[] 217)) := (Below.refl _ w).alloc (Nat.le_refl _) _
    have R0 : Kd.R P.k217 217 (w.alloc (.cells #[] 217)) w.heap.size (fun _ => True) (.slice (some ⟨w.heap.size, 0, none⟩) 0 0) [] := R_empty _ 217 w _ (Nat.le_refl _) _ trivial
    obtain ⟨v1, w1, hrun, R1, hg, hat⟩ := run_app_flat (P := Tryz.prog) (t := 67) (e := 217) (ty := 67) (c := c) P.k217 (fun h w1 base ok => flat217 h w1 base ok) under67 info217 rfl (by decide) (by decide) R0 (Kd.C_below hA bX) (fun _ _ => trivial) (by simp) (by simp; omega)
    have b1 : Below w.heap.size w w1 := bX.grown hg bX.size (fun k hk => by simp [Value.ownBlock] at hk; omega)
    have HR := Lib.hid (And.intro R1 b1)
    clear R0 R1 b1 bX hg hat hA
    generalize xs.length = m at *
    go_enter Tryz.func88, Tryz.ntmps88
    go_wp2_with (at_builtin; refine run_app (.tmp 5) (.tmp 6) 67 rfl rfl hrun ?_)
    go_ret
    exact ⟨_, rfl, HR.out.1, HR.out.2⟩
set_option maxRecDepth 100000 in
set_option maxHeartbeats 2000000 in
theorem cloneInts_call (w : World) (A : Option Addr) (c : Nat) (xs : List Int) (hA : Kd.C (Kd.int .i64) w A xs.length xs) (hl : xs.length ≤ 1000000) : Calls Tryz.prog 89 #[.slice A xs.length c] w fun e w' => ∃ v, e = .returned v ∧ Kd.R (Kd.int .i64) 3 w' w.heap.size (fun _ => True) v xs ∧ Below w.heap.size w w' := by
  rcases A with _ | ad
  · have h0 : xs = [] := by
      rcases Nat.eq_zero_or_pos xs.length with h0 | h0
      · exact List.eq_nil_of_length_eq_zero h0
      · obtain ⟨ad, h, _⟩ := hA.2.2 h0
        cases h
    subst h0
    go_enter Tryz.func89, Tryz.ntmps89
    go_wp2_with (fail)
    go_ret
    exact ⟨_, rfl, Kd.R_nil _ _ _ _ _, Below.refl _ _⟩
  · have bX : Below w.heap.size w (w.alloc (.cells #[] 3)) := (Below.refl _ w).alloc (Nat.le_refl _) _
    have R0 : Kd.R (Kd.int .i64) 3 (w.alloc (.cells #[] 3)) w.heap.size (fun _ => True) (.slice (some ⟨w.heap.size, 0, none⟩) 0 0) [] := R_empty _ 3 w _ (Nat.le_refl _) _ trivial
    obtain ⟨v1, w1, hrun, R1, hg, hat⟩ := run_app_row (P := Tryz.prog) (t := 26) (e := 3) (ty := 26) (c := c) .i64 under26 info3 (by decide) R0 (Kd.C_below hA bX) (fun _ _ => trivial) (by simp) (by simp; omega)
    have b1 : Below w.heap.size w w1 := bX.grown hg bX.size (fun k hk => by simp [Value.ownBlock] at hk; omega)
    have HR := Lib.hid (And.intro R1 b1)
    clear R0 R1 b1 bX hg hat hA
    generalize xs.length = m at *
    go_enter Tryz.func89, Tryz.ntmps89
    go_wp2_with (at_builtin; refine run_app (.tmp 5) (.tmp 6) 26 rfl rfl hrun ?_)
    go_ret
    exact ⟨_, rfl, HR.out.1, HR.out.2⟩
end Go.Proofs.YtgdlpgakhhebeaaGreatDoor
end
section
set_option linter.unusedVariables false
set_option linter.unusedSimpArgs false
namespace Go.Proofs.YtgdlpgakhhebeaaGreatDoor
open Go.RowKit Go.Proofs.YtgdlpgakhhebeaaGreatDoorW.PrintWords Go.Proofs.YtgdlpgakhhebeaaGreatDoorW.PrintMore
attribute [local go_sem] Oper.semAt_some

/-- A message's value: its rows are its own. -/
def MsM (w : World) (base : Nat) (m : Ms) (Ap : Option Addr) (cp : Nat) (Ac : Option Addr) (cc : Nat) : Prop :=
  Kd.R P.k217 217 w base (fun _ => True) (.slice Ap m.path.length cp) m.path ∧ Kd.R (Kd.int .i64) 3 w base (fun _ => True) (.slice Ac m.cells.length cc) m.cells
set_option maxRecDepth 100000 in
set_option maxHeartbeats 2000000 in
theorem copy_call (m : Ms) (w : World) (Ap : Option Addr) (cp : Nat) (Ac : Option Addr) (cc : Nat) (h : MsR w m Ap cp Ac cc) (hm : Fit m) :
    Calls Tryz.prog 51 #[mV m Ap cp Ac cc] w fun e w' => ∃ Bp dp Bc dc, e = .returned (mV m Bp dp Bc dc) ∧ MsM w' w.heap.size m Bp dp Bc dc ∧ Below w.heap.size w w' := by
  have HM := Lib.hid (And.intro h hm)
  clear h hm
  unfold mV Ms.cs
  go_enter Tryz.func51, Tryz.ntmps51
  go_wp2_with (fail)
  go_region_with (first
    | (go_at_call 88
       refine (clonePts_call _ Ap cp m.path (Kd.C_below HM.out.1.path (by first | exact (((Below.refl _ w).alloc (Nat.le_refl _) _).alloc (by simp) _).drew | exact ((Below.refl _ w).alloc (Nat.le_refl _) _).alloc (by simp) _)) (by have := HM.out.2.path; omega)).mono ?_
       rintro e wA ⟨vA, rfl, RA, bA⟩
       obtain ⟨A1, c1, rfl⟩ := Kd.R_slice RA
       have hA0 := (bA.block w.heap.size (by simp; omega)).trans (al2_a w _ _)
       have hA1 := (bA.block (w.heap.size + 1) (by simp)).trans (al2_b w _ _)
       have hAb : Below w.heap.size w wA := by
         refine Below.trans ?_ (bA.mono ?_)
         · exact (((Below.refl _ w).alloc (Nat.le_refl _) _).alloc (by simp) _).drew
         · simp; omega
       have hAz : w.heap.size + 2 ≤ wA.heap.size := by have := bA.size; simp at this; omega
       have HA := Lib.hid (And.intro (Kd.R_lower RA (by simp) : Kd.R P.k217 217 wA (w.heap.size + 2) (fun _ => True) (.slice A1 m.path.length c1) m.path) (And.intro hA0 (And.intro hA1 (And.intro hAb hAz))))
       have qA8 : wA.cell? ⟨w.heap.size, 8, none⟩ = some (.slice Ac m.cells.length cc) := cell_at hA0 rfl
       clear RA bA hA0 hA1 hAb hAz)
    | (go_at_call 89
       refine (cloneInts_call _ Ac cc m.cells (Kd.C_below HM.out.1.cells HA.out.2.2.2.1) (by have := HM.out.2.cells; omega)).mono ?_
       rintro e wB ⟨vB, rfl, RB, bB⟩
       obtain ⟨A2, c2, rfl⟩ := Kd.R_slice RB
       have hB0 := (bB.block w.heap.size (Array.getElem?_eq_some_iff.1 HA.out.2.1).1).trans HA.out.2.1
       have hB1 := (bB.block (w.heap.size + 1) (Array.getElem?_eq_some_iff.1 HA.out.2.2.1).1).trans HA.out.2.2.1
       have HB := Lib.hid (And.intro (Kd.R_below HA.out.1 bB) (And.intro (Kd.R_lower RB HA.out.2.2.2.2) (And.intro hB0 (And.intro hB1 (HA.out.2.2.2.1.trans (bB.mono HA.out.2.2.2.1.size))))))
       have qB7 : wB.cell? ⟨w.heap.size, 7, none⟩ = some (.slice Ap m.path.length cp) := cell_at hB0 rfl
       have qB8 : wB.cell? ⟨w.heap.size, 8, none⟩ = some (.slice Ac m.cells.length cc) := cell_at hB0 rfl
       have fB7 : wB.frozen? ⟨w.heap.size, 7, none⟩ = false := frozen_at hB0
       have fB8 : wB.frozen? ⟨w.heap.size, 8, none⟩ = false := frozen_at hB0
       clear RB bB hB0 hB1 qA8))
  all_goals (
    clear qB7 qB8 fB7 fB8
    obtain ⟨V, hV⟩ : ∃ V, (wB.setCell ⟨w.heap.size, 7, none⟩ (.slice A1 m.path.length c1)).setCell ⟨w.heap.size, 8, none⟩ (.slice A2 m.cells.length c2) = V := ⟨_, rfl⟩
    rw [hV]
    obtain ⟨b1, b2, b3, b4, b5⟩ := HB.out
    have hst : Stab (fun x => x = w.heap.size) w.heap.size wB V := by rw [← hV]; exact ((Stab.refl _ _ _).set1 7 _).set1 8 _
    have v3 : V.heap[w.heap.size]? = some (.cells (m.cs A1 c1 A2 c2) 69) := by rw [← hV]; exact hs_at (hs_at b3 rfl) rfl
    have v4 := hst.heap1 b4 (by omega)
    have v1 := Stab.R b1 hst (by omega)
    have v2 := Stab.R b2 hst (by omega)
    have v5 : Below w.heap.size w V := hst.one_below b5 (Nat.le_refl _) b5.size (Nat.le_refl _)
    have HV := Lib.hid (And.intro v1 (And.intro v2 (And.intro v3 (And.intro v4 v5))))
    have q0 : V.cell? ⟨w.heap.size, 0, none⟩ = some (.int .i64 m.k) := cell_at v3 rfl
    have q1 : V.cell? ⟨w.heap.size, 1, none⟩ = some (.int .i64 m.n0) := cell_at v3 rfl
    have q2 : V.cell? ⟨w.heap.size, 2, none⟩ = some (.int .i64 m.n1) := cell_at v3 rfl
    have q3 : V.cell? ⟨w.heap.size, 3, none⟩ = some (.int .i64 m.n2) := cell_at v3 rfl
    have q4 : V.cell? ⟨w.heap.size, 4, none⟩ = some (.int .i64 m.n3) := cell_at v3 rfl
    have q5 : V.cell? ⟨w.heap.size, 5, none⟩ = some (.int .i64 m.n4) := cell_at v3 rfl
    have q6 : V.cell? ⟨w.heap.size, 6, none⟩ = some (.int .i64 m.n5) := cell_at v3 rfl
    have q7 : V.cell? ⟨w.heap.size, 7, none⟩ = some (.slice A1 m.path.length c1) := cell_at v3 rfl
    have q8 : V.cell? ⟨w.heap.size, 8, none⟩ = some (.slice A2 m.cells.length c2) := cell_at v3 rfl
    have q9 : V.cell? ⟨w.heap.size, 9, none⟩ = some (.string m.text) := cell_at v3 rfl
    have q10 : V.cell? ⟨w.heap.size, 10, none⟩ = some (.string m.tag) := cell_at v3 rfl
    have r0 : V.cell? ⟨(w.heap.size + 1), 0, none⟩ = some (.int .i64 0) := cell_at v4 rfl
    have r1 : V.cell? ⟨(w.heap.size + 1), 1, none⟩ = some (.int .i64 0) := cell_at v4 rfl
    have r2 : V.cell? ⟨(w.heap.size + 1), 2, none⟩ = some (.int .i64 0) := cell_at v4 rfl
    have r3 : V.cell? ⟨(w.heap.size + 1), 3, none⟩ = some (.int .i64 0) := cell_at v4 rfl
    have r4 : V.cell? ⟨(w.heap.size + 1), 4, none⟩ = some (.int .i64 0) := cell_at v4 rfl
    have r5 : V.cell? ⟨(w.heap.size + 1), 5, none⟩ = some (.int .i64 0) := cell_at v4 rfl
    have r6 : V.cell? ⟨(w.heap.size + 1), 6, none⟩ = some (.int .i64 0) := cell_at v4 rfl
    have r7 : V.cell? ⟨(w.heap.size + 1), 7, none⟩ = some (.slice none 0 0) := cell_at v4 rfl
    have r8 : V.cell? ⟨(w.heap.size + 1), 8, none⟩ = some (.slice none 0 0) := cell_at v4 rfl
    have r9 : V.cell? ⟨(w.heap.size + 1), 9, none⟩ = some (.string ⟨#[]⟩) := cell_at v4 rfl
    have r10 : V.cell? ⟨(w.heap.size + 1), 10, none⟩ = some (.string ⟨#[]⟩) := cell_at v4 rfl
    have z0 : V.frozen? ⟨(w.heap.size + 1), 0, none⟩ = false := frozen_at v4
    have z1 : V.frozen? ⟨(w.heap.size + 1), 1, none⟩ = false := frozen_at v4
    have z2 : V.frozen? ⟨(w.heap.size + 1), 2, none⟩ = false := frozen_at v4
    have z3 : V.frozen? ⟨(w.heap.size + 1), 3, none⟩ = false := frozen_at v4
    have z4 : V.frozen? ⟨(w.heap.size + 1), 4, none⟩ = false := frozen_at v4
    have z5 : V.frozen? ⟨(w.heap.size + 1), 5, none⟩ = false := frozen_at v4
    have z6 : V.frozen? ⟨(w.heap.size + 1), 6, none⟩ = false := frozen_at v4
    have z7 : V.frozen? ⟨(w.heap.size + 1), 7, none⟩ = false := frozen_at v4
    have z8 : V.frozen? ⟨(w.heap.size + 1), 8, none⟩ = false := frozen_at v4
    have z9 : V.frozen? ⟨(w.heap.size + 1), 9, none⟩ = false := frozen_at v4
    have z10 : V.frozen? ⟨(w.heap.size + 1), 10, none⟩ = false := frozen_at v4
    clear v1 v2 v3 v4 v5 hst b1 b2 b3 b4 b5 HB HA hV
    go_wp2_with (fail)
    have hs2 : Stab (fun x => x = w.heap.size + 1) V.heap.size V _ := st11_stab (W := V) (b := w.heap.size + 1) (n := V.heap.size) (.int .i64 m.k) (.int .i64 m.n0) (.int .i64 m.n1) (.int .i64 m.n2) (.int .i64 m.n3) (.int .i64 m.n4) (.int .i64 m.n5) (.slice A1 m.path.length c1) (.slice A2 m.cells.length c2) (.string m.text) (.string m.tag)
    obtain ⟨v1, v2, v3, v4, v5⟩ := HV.out
    have y4 := st11_heap v4 (.int .i64 m.k) (.int .i64 m.n0) (.int .i64 m.n1) (.int .i64 m.n2) (.int .i64 m.n3) (.int .i64 m.n4) (.int .i64 m.n5) (.slice A1 m.path.length c1) (.slice A2 m.cells.length c2) (.string m.text) (.string m.tag)
    show bodyPost _ _ _ _ _ (st11 V (w.heap.size + 1) (.int .i64 m.k) (.int .i64 m.n0) (.int .i64 m.n1) (.int .i64 m.n2) (.int .i64 m.n3) (.int .i64 m.n4) (.int .i64 m.n5) (.slice A1 m.path.length c1) (.slice A2 m.cells.length c2) (.string m.text) (.string m.tag))
    generalize st11 V (w.heap.size + 1) (.int .i64 m.k) (.int .i64 m.n0) (.int .i64 m.n1) (.int .i64 m.n2) (.int .i64 m.n3) (.int .i64 m.n4) (.int .i64 m.n5) (.slice A1 m.path.length c1) (.slice A2 m.cells.length c2) (.string m.text) (.string m.tag) = X at hs2 y4 ⊢
    have x0 : X.cell? ⟨(w.heap.size + 1), 0, none⟩ = some (.int .i64 m.k) := cell_at y4 rfl
    have x1 : X.cell? ⟨(w.heap.size + 1), 1, none⟩ = some (.int .i64 m.n0) := cell_at y4 rfl
    have x2 : X.cell? ⟨(w.heap.size + 1), 2, none⟩ = some (.int .i64 m.n1) := cell_at y4 rfl
    have x3 : X.cell? ⟨(w.heap.size + 1), 3, none⟩ = some (.int .i64 m.n2) := cell_at y4 rfl
    have x4 : X.cell? ⟨(w.heap.size + 1), 4, none⟩ = some (.int .i64 m.n3) := cell_at y4 rfl
    have x5 : X.cell? ⟨(w.heap.size + 1), 5, none⟩ = some (.int .i64 m.n4) := cell_at y4 rfl
    have x6 : X.cell? ⟨(w.heap.size + 1), 6, none⟩ = some (.int .i64 m.n5) := cell_at y4 rfl
    have x7 : X.cell? ⟨(w.heap.size + 1), 7, none⟩ = some (.slice A1 m.path.length c1) := cell_at y4 rfl
    have x8 : X.cell? ⟨(w.heap.size + 1), 8, none⟩ = some (.slice A2 m.cells.length c2) := cell_at y4 rfl
    have x9 : X.cell? ⟨(w.heap.size + 1), 9, none⟩ = some (.string m.text) := cell_at y4 rfl
    have x10 : X.cell? ⟨(w.heap.size + 1), 10, none⟩ = some (.string m.tag) := cell_at y4 rfl
    refine bodyPost_ret (v := .agg (m.cs A1 c1 A2 c2)) (by unfold Ms.cs; simp [results, Tryz.results51, go_sem, x0, x1, x2, x3, x4, x5, x6, x7, x8, x9, x10]) rfl ⟨A1, c1, A2, c2, rfl, ⟨Kd.R_lower (Stab.R v1 hs2 (by omega)) (by omega), Kd.R_lower (Stab.R v2 hs2 (by omega)) (by omega)⟩, hs2.one_below v5 v5.size v5.size (by omega)⟩)
end Go.Proofs.YtgdlpgakhhebeaaGreatDoor
end
