/- Part 36 of the proof of TopWire: Lvc, Fnw, Snw, Scf. -/
import Derived.Test.YtgdlpgakhhebeaaGreatDoorMg14
import Derived.Test.YtgdlpgakhhebeaaGreatDoorMg35
section
set_option linter.unusedVariables false
namespace Go.Proofs.YtgdlpgakhhebeaaGreatDoor.Ev
open Go
noncomputable section
theorem R0 (sg : Nat → Pl) (W : World) : R sg H0 W :=
  ⟨Nat.one_pos, fun b o h => (by cases h), (by decide : (1 : Nat) < 1000000000000), fun b B h => (by cases h), fun b o h => (by cases h), fun b B h => (by cases h), fun b b' B B' h => (by cases h), fun b b' o o' h => (by cases h), fun b B h => (by cases h)⟩
theorem isWord_eq {j : Nat} {o : Option Value} (h : isWord j o = true) : o = some (crcWord j) := by
  unfold isWord at h
  split at h
  · rename_i n
    rw [Nat.eq_of_beq_eq_true h]
    rfl
  · cases h
theorem allWords_eq (cs : T Value) : ∀ n, allWords cs n = true → ∀ j, j < n → cs.get j = some (crcWord j)
  | 0, h, j, hj => by omega
  | n + 1, h, j, hj => by
    have h' : @Bool.rec (fun _ => Bool) false (allWords cs n) (isWord n (cs.get n)) = true := h
    cases hw : isWord n (cs.get n) with
    | false => rw [hw] at h'; cases h'
    | true =>
      rw [hw] at h'
      by_cases e : j = n
      · subst e; exact isWord_eq hw
      · exact allWords_eq cs n h' j (by omega)
theorem newCheck_eq {r : VRes} (h : newCheck r = true) : ∃ b H' B, r = some (.pointer (some ⟨b, 0, none⟩), H') ∧ H'.heap.get b = some (.cells B) ∧ B.n = 1024 ∧ ∀ j, j < 1024 → B.cs.get j = some (crcWord j) := by
  unfold newCheck at h
  split at h
  · rename_i b H'
    unfold isTable at h
    split at h
    · rename_i B hB
      rw [Bool.and_eq_true] at h
      exact ⟨b, H', B, rfl, hB, Nat.eq_of_beq_eq_true h.1, allWords_eq B.cs 1024 h.2⟩
    · cases h
  · cases h
/-- A new table: where it lies, what it holds. -/
def NewTable (W W' : World) (k off : Nat) (C : Array Value) : Prop :=
  Row W' k C 0 ∧ W.heap.size ≤ k ∧ (∀ j, j < 1024 → C[off + j]? = some (crcWord j)) ∧ (∀ x, x < W.heap.size → W'.heap[x]? = W.heap[x]?) ∧ W'.os = W.os ∧ W'.output = W.output ∧ W'.tape = W.tape ∧ W.heap.size ≤ W'.heap.size
theorem new_calls (W : World) : (∀ (args' : Array Value) (W : World), (callFunc 59 args').run Tryz.prog W = .ok (.enter 59 args') W) ∧ Calls Tryz.prog 59 #[] W fun e W' => ∃ k off C, e = .returned (.pointer (some ⟨k, off, none⟩)) ∧ NewTable W W' k off C := by
  obtain ⟨b, H', B, h1, h2, h3, h4⟩ := newCheck_eq new_run
  obtain ⟨c1, c2⟩ := (ev_ok extShift_ok mixed 3000).call 59 [] H0 _ _ h1
  refine ⟨c1, (c2 (fun _ => ⟨0, 0, 0, 0⟩) W #[] (R0 _ W) (LR.nil _ _)).mono ?_⟩
  rintro e W' ⟨v', sg', rfl, r1, r2, r3⟩
  obtain ⟨hb, rfl⟩ := r3.ptr_eq
  obtain ⟨C, hC, hbr⟩ := r1.cells b B h2
  refine ⟨(sg' b).1, (sg' b).2 + 0, C, rfl, ?_, ?_, fun j hj => ?_, fun x hx => r2.same x hx (fun b0 o0 h0 => by cases h0), r2.os, r2.output, r2.tape, r2.size⟩
  · obtain ⟨e, fz, q1, q2⟩ := hC
    exact ⟨e, fz, q1, q2⟩
  · rcases r2.dom b _ h2 with ⟨b0, o0, h0, _⟩ | h0
    · cases h0
    · exact h0
  · obtain ⟨u, u', q1, q2, q3⟩ := hbr j (by omega)
    rw [h4 j hj] at q1
    cases q1
    have : u' = crcWord j := q3.int_eq
    rw [Nat.add_zero, q2, this]
/-- New, as the evaluator has it. -/
def newA : List Value → ASt → VRes
  | [], H => (aadd H crcL 0 H.next 0).ob fun H' => some (.pointer (some ⟨H.next, 0, none⟩), H')
  | _, _ => none
def extNew : Outer := fun f => T.bi (Nat.beq f 59) (some newA) none
theorem crcL_get {i : Nat} {v : Value} (h : crcL[i]? = some v) : i < 1024 ∧ v = crcWord i := by
  unfold crcL at h
  rw [List.getElem?_map] at h
  cases hr : (List.range 1024)[i]? with
  | none => rw [hr] at h; cases h
  | some x =>
    rw [hr] at h
    obtain ⟨h1, h2⟩ := List.getElem?_eq_some_iff.1 hr
    rw [List.getElem_range] at h2
    subst h2
    cases h
    exact ⟨by simpa using h1, rfl⟩
theorem extNew_ok : ExtOk Tryz.prog extNew := fun f g hfg f' args H v H' h => by
  unfold extNew at hfg
  rw [T.bi_eq] at hfg
  cases hf : Nat.beq f 59 with
  | false => rw [hf] at hfg; cases hfg
  | true =>
    rw [hf] at hfg
    cases hfg
    have hf : f = 59 := Nat.eq_of_beq_eq_true hf
    subst hf
    simp only at h
    by_cases he : f' = 59
    · subst he
      rw [if_pos rfl] at h
      unfold newA at h
      split at h
      · simp only [Option.ob_eq, Option.bind_eq_some_iff] at h
        obtain ⟨H1, hadd, h2⟩ := h
        cases h2
        refine ⟨(new_calls default).1, fun sg W args' hR hargs => ?_⟩
        have ha : args' = #[] := Array.toList_inj.1 (List.eq_nil_of_length_eq_zero (by rw [← hargs.1]; rfl))
        subst ha
        refine ((new_calls W).2).mono ?_
        rintro e W' ⟨k, off, C, rfl, hC, hk, hcs, hsame, w1, w2, w3, w4⟩
        have hRW : R sg H W' := hR.world (fun b o hb => hsame _ (hR.inside hb))
        have hr := hRW.add hadd (k := k) (off := off) (C := C) hC (fun i u hi => by
          obtain ⟨q1, rfl⟩ := crcL_get hi
          exact ⟨crcWord i, hcs i q1, .int _ _⟩) (fun x B hx e => by have := hR.inside hx; omega)
        refine ⟨_, _, rfl, hr.1, ⟨tell_ext _ _ _, by rw [hr.2]; exact Nat.le_succ _, w1, w2, w3, w4, fun x hx _ => hsame x hx, fun x o hx => ?_⟩, ?_⟩
        · have hget := aadd_get hR.big hadd x
          rw [hget] at hx
          split at hx
          · rename_i e; subst e; exact .inr (by simpa [tell] using hk)
          · exact .inl ⟨x, o, hx, by rw [tell_ext sg H.next ⟨k, off, C.size, 0⟩ x (hR.lt x o hx).2]⟩
        · rw [hr.2]
          have := VR.ptr (sg := tell sg H.next ⟨k, off, C.size, 0⟩) (N := H.next + 1) H.next 0 (Nat.lt_succ_self _)
          rw [show tell sg H.next ⟨k, off, C.size, 0⟩ H.next = ⟨k, off, C.size, 0⟩ from if_pos rfl] at this
          exact this
      · cases h
    · rw [if_neg he] at h
      cases h
def isT : VRes → Bool
  | some (.bool b, _) => b
  | _ => false
theorem isT_eq {r : VRes} (h : isT r = true) : ∃ H', r = some (.bool true, H') := by
  unfold isT at h
  split at h
  · rename_i b H'; subst h; exact ⟨H', rfl⟩
  · cases h
end
end Go.Proofs.YtgdlpgakhhebeaaGreatDoor.Ev
end
section
set_option linter.unusedVariables false
set_option linter.unusedSimpArgs false
namespace Go.Proofs.YtgdlpgakhhebeaaGreatDoor
open Go.RowKit Go.Proofs.YtgdlpgakhhebeaaGreatDoorW.PrintWords Go.Proofs.YtgdlpgakhhebeaaGreatDoorW.PrintMore
attribute [local go_sem] Oper.semAt_some

/-- The table's words. -/
noncomputable def crcT (j : Nat) : Int := .ofNat (Ev.word (Nat.div j 256) (Nat.mod j 256))
theorem frameNew_call (w : World) : Calls Tryz.prog 32 #[] w fun e w' => ∃ cp k off, e = .returned (.pointer (some ⟨cp, 0, none⟩)) ∧ w'.cell? ⟨cp, 0, none⟩ = some (.pointer (some ⟨k, off, none⟩)) ∧ Tbl w' k off crcT ∧ Below w.heap.size w w' := by
  have hn := (Ev.new_calls w).2
  go_enter Tryz.func32, Tryz.ntmps32
  go_wp2_with (fail)
  refine hn.mono ?_
  rintro e w1 ⟨k, off, C, rfl, hrow, hk, hC, hs, h1, h2, h3, h4⟩
  have hb : Below w.heap.size w w1 := ⟨h1, h3, h2, h4, fun q hq => hs q hq⟩
  have hT : Tbl w1 k off crcT := fun j hj => by rw [hrow.cell]; exact hC j hj
  have HB := Lib.hid (And.intro hb hT)
  clear hn hrow hC hs h1 h2 h3 h4 hb hT
  go_wp2_with (fail)
  go_ret
  refine ⟨w1.heap.size, k, off, rfl, cell_at (World.alloc_heap_new w1 _) rfl, HB.out.2.below ((Below.refl _ w1).alloc (Nat.le_refl _) _), HB.out.1.alloc HB.out.1.size _⟩
end Go.Proofs.YtgdlpgakhhebeaaGreatDoor
end
section
set_option linter.unusedVariables false
set_option linter.unusedSimpArgs false
namespace Go.Proofs.YtgdlpgakhhebeaaGreatDoor
open Go.RowKit Go.Proofs.YtgdlpgakhhebeaaGreatDoorW.PrintWords Go.Proofs.YtgdlpgakhhebeaaGreatDoorW.PrintMore
attribute [local go_sem] Oper.semAt_some

/-- The document's word on a setting. -/
def chkS (v m : Int) : Int := if ¬ (v = 1 ∨ v = 2) then 10 else if m < 16 ∨ 257 < m then 5 else 0
theorem chkS_f (v m s : Int) : P.conf_CheckSender.f 1 v m s = some (chkS v m) := by
  unfold P.conf_CheckSender.f chkS
  by_cases h1 : v = 1
  · rw [if_pos h1]
    simp [P.conf_CheckSender.j0, h1]
    split
    · simp [*]
    · split <;> simp_all
  · rw [if_neg h1]
    by_cases h2 : v = 2
    · simp [P.conf_CheckSender.j0, h2]
      split
      · simp [*]
      · split <;> simp_all
    · simp [P.conf_CheckSender.j0, h1, h2]
/-- A sender's cells. -/
def Snd (W : World) (g cp : Nat) (v m s nx sent : Int) : Prop := W.heap[g]? = some (.cells #[.int .i64 v, .int .i64 m, .int .u32 s, .pointer (some ⟨cp, 0, none⟩), .int .u32 nx, .int .i64 sent] 146)
set_option maxRecDepth 100000 in
set_option maxHeartbeats 1000000 in
theorem sendNew_call (v m s : Int) (hok : chkS v m = 0) (w : World) : Calls Tryz.prog 26 #[.agg #[.int .i64 v, .int .i64 m, .int .u32 s]] w fun e w' => ∃ g cp k off, e = .returned (.tuple #[.pointer (some ⟨g, 0, none⟩), .int .i64 0]) ∧ w.heap.size ≤ g ∧ Snd w' g cp v m s s 0 ∧ w'.cell? ⟨cp, 0, none⟩ = some (.pointer (some ⟨k, off, none⟩)) ∧ Tbl w' k off crcT ∧ Below w.heap.size w w' := by
  have hc := P.conf_CheckSender.calls 1 v m s (chkS v m) (w.alloc (.cells #[.int .i64 v, .int .i64 m, .int .u32 s] 52)) (chkS_f v m s)
  rw [hok] at hc
  go_enter Tryz.func26, Tryz.ntmps26
  go_wp2_with (fail)
  refine hc.mono ?_
  rintro e w2 ⟨rfl, hb2⟩
  have hH := (hb2.block w.heap.size (by simp)).trans (World.alloc_heap_new w (.cells #[.int .i64 v, .int .i64 m, .int .u32 s] 52))
  have hb := ((Below.refl _ w).alloc (Nat.le_refl _) (.cells #[.int .i64 v, .int .i64 m, .int .u32 s] 52)).trans (hb2.mono (by simp))
  have c0 : w2.cell? ⟨w.heap.size, 0, none⟩ = some (.int .i64 v) := cell_at hH rfl
  have c1 : w2.cell? ⟨w.heap.size, 1, none⟩ = some (.int .i64 m) := cell_at hH rfl
  have c2 : w2.cell? ⟨w.heap.size, 2, none⟩ = some (.int .u32 s) := cell_at hH rfl
  have HB := Lib.hid (And.intro hb hH)
  clear hc hb2 hb hH
  go_wp2_with (fail)
  have hC0 : w2.drew.cell? ⟨w.heap.size, 0, none⟩ = some (.int .i64 v) ∧ w2.drew.cell? ⟨w.heap.size, 1, none⟩ = some (.int .i64 m) ∧ w2.drew.cell? ⟨w.heap.size, 2, none⟩ = some (.int .u32 s) := ⟨c0, c1, c2⟩
  refine wp_region_hoist [(0, true), (1, true), (3, true), (4, true), (2, false), (5, true), (6, false), (7, true), (8, true)] (fun w' => w'.cell? ⟨w.heap.size, 0, none⟩ = some (.int .i64 v) ∧ w'.cell? ⟨w.heap.size, 1, none⟩ = some (.int .i64 m) ∧ w'.cell? ⟨w.heap.size, 2, none⟩ = some (.int .u32 s)) (by kernel_rfl) (by kernel_rfl) ?_
  iterate 4 (apply wpH_readL _ rfl rfl rfl; (· (intro w' hw'; obtain ⟨r1, r2, r3⟩ := hw'; go_simp; exact ⟨rfl, rfl⟩)); simp only [List.set_cons_zero, List.set_cons_succ])
  apply wpH_callL (f := 32) (args := #[]) (fun _ => trivial) rfl rfl rfl hC0 rfl (fun c h => by cases h) (by kernel_rfl)
  refine callsIn_wide.2 ((frameNew_call w2.drew).mono ?_)
  rintro e w3 ⟨cp, k, off, rfl, h1, h2, h3⟩
  refine ⟨_, rfl, ?_⟩
  simp only [List.set_cons_zero, List.set_cons_succ]
  have hC3 : w3.cell? ⟨w.heap.size, 0, none⟩ = some (.int .i64 v) ∧ w3.cell? ⟨w.heap.size, 1, none⟩ = some (.int .i64 m) ∧ w3.cell? ⟨w.heap.size, 2, none⟩ = some (.int .u32 s) := ⟨Below_cell h3 hC0.1, Below_cell h3 hC0.2.1, Below_cell h3 hC0.2.2⟩
  iterate 1 (apply wpH_readL _ rfl rfl rfl; (· (intro w' hw'; obtain ⟨r1, r2, r3⟩ := hw'; go_simp; exact ⟨rfl, rfl⟩)); simp only [List.set_cons_zero, List.set_cons_succ])
  have ba : Below w3.heap.size w3 (w3.alloc (.cells #[.int .i64 v, .int .i64 m, .int .u32 s, .pointer (some ⟨cp, 0, none⟩), .int .u32 s, .int .i64 0] 146)) := (Below.refl _ w3).alloc (Nat.le_refl _) _
  have hC4 : (w3.alloc (.cells #[.int .i64 v, .int .i64 m, .int .u32 s, .pointer (some ⟨cp, 0, none⟩), .int .u32 s, .int .i64 0] 146)).cell? ⟨w.heap.size, 0, none⟩ = some (.int .i64 v) ∧ (w3.alloc (.cells #[.int .i64 v, .int .i64 m, .int .u32 s, .pointer (some ⟨cp, 0, none⟩), .int .u32 s, .int .i64 0] 146)).cell? ⟨w.heap.size, 1, none⟩ = some (.int .i64 m) ∧ (w3.alloc (.cells #[.int .i64 v, .int .i64 m, .int .u32 s, .pointer (some ⟨cp, 0, none⟩), .int .u32 s, .int .i64 0] 146)).cell? ⟨w.heap.size, 2, none⟩ = some (.int .u32 s) := ⟨Below_cell ba hC3.1, Below_cell ba hC3.2.1, Below_cell ba hC3.2.2⟩
  apply wpH_valueL (w := w3) (.pointer (some ⟨w3.heap.size, 0, none⟩)) (w' := w3.alloc (.cells #[.int .i64 v, .int .i64 m, .int .u32 s, .pointer (some ⟨cp, 0, none⟩), .int .u32 s, .int .i64 0] 146)) (fun _ => trivial) rfl rfl hC3 rfl (fun c h => by cases h) (by kernel_rfl)
  simp only [List.set_cons_zero, List.set_cons_succ]
  iterate 2 (apply wpH_readL _ rfl rfl rfl; (· (intro w' hw'; obtain ⟨r1, r2, r3⟩ := hw'; go_simp; exact ⟨rfl, rfl⟩)); simp only [List.set_cons_zero, List.set_cons_succ])
  refine wpH_end hC4 ?_
  have hbF : Below w.heap.size w w3 := HB.out.1.trans ((Below.refl _ w2).drew.trans (h3.mono (Nat.le_refl _)) |>.mono HB.out.1.size)
  have HF := Lib.hid (And.intro (World.alloc_heap_new w3 (.cells #[.int .i64 v, .int .i64 m, .int .u32 s, .pointer (some ⟨cp, 0, none⟩), .int .u32 s, .int .i64 0] 146)) (And.intro (Below_cell ba h1) (And.intro (h2.below ba) (hbF.alloc hbF.size (.cells #[.int .i64 v, .int .i64 m, .int .u32 s, .pointer (some ⟨cp, 0, none⟩), .int .u32 s, .int .i64 0] 146)))))
  have hsz := hbF.size
  clear hC0 hC3 hC4 c0 c1 c2 h1 h2 h3 ba hbF
  go_wp2_with (fail)
  exact bodyPost_ret (v := .tuple #[.pointer (some ⟨w3.heap.size, 0, none⟩), .int .i64 0]) (by simp [results, Tryz.results26, go_sem]) rfl ⟨w3.heap.size, cp, k, off, rfl, hsz, HF.out.1, HF.out.2.1, HF.out.2.2.1, HF.out.2.2.2⟩
end Go.Proofs.YtgdlpgakhhebeaaGreatDoor
end
section
set_option linter.unusedVariables false
set_option linter.unusedSimpArgs false
namespace Go.Proofs.YtgdlpgakhhebeaaGreatDoor
open Go.RowKit Go.Proofs.YtgdlpgakhhebeaaGreatDoorW.PrintWords Go.Proofs.YtgdlpgakhhebeaaGreatDoorW.PrintMore
attribute [local go_sem] Oper.semAt_some

theorem sendNew_bad (v m s : Int) (hno : chkS v m ≠ 0) (w : World) : Calls Tryz.prog 26 #[.agg #[.int .i64 v, .int .i64 m, .int .u32 s]] w fun e w' => e = .returned (.tuple #[.pointer none, .int .i64 (chkS v m)]) ∧ Below w.heap.size w w' := by
  have hc := P.conf_CheckSender.calls 1 v m s (chkS v m) (w.alloc (.cells #[.int .i64 v, .int .i64 m, .int .u32 s] 52)) (chkS_f v m s)
  have hne : (chkS v m != 0) = true := by simpa using hno
  generalize chkS v m = x at *
  clear hno
  go_enter Tryz.func26, Tryz.ntmps26
  go_wp2_with (fail)
  refine hc.mono ?_
  rintro e w2 ⟨rfl, hb2⟩
  have HB := Lib.hid (((Below.refl _ w).alloc (Nat.le_refl _) (.cells #[.int .i64 v, .int .i64 m, .int .u32 s] 52)).trans (hb2.mono (by simp)))
  clear hc hb2
  go_wp2_with (fail)
  exact bodyPost_ret (v := .tuple #[.pointer none, .int .i64 x]) (by simp [results, Tryz.results26, go_sem]) rfl ⟨rfl, HB.out⟩
theorem conf_call (w : World) (g cp : Nat) (v m s nx sent : Int) (h : Snd w g cp v m s nx sent) : Calls Tryz.prog 44 #[.pointer (some ⟨g, 0, none⟩)] w fun e w' => e = .returned (.agg #[.int .i64 v, .int .i64 m, .int .u32 s]) ∧ Below w.heap.size w w' := by
  have c0 : w.cell? ⟨g, 0, none⟩ = some (.int .i64 v) := cell_at h rfl
  have c1 : w.cell? ⟨g, 1, none⟩ = some (.int .i64 m) := cell_at h rfl
  have c2 : w.cell? ⟨g, 2, none⟩ = some (.int .u32 s) := cell_at h rfl
  have hgl : g < w.heap.size := (Array.getElem?_eq_some_iff.1 h).1
  have a0 := cell_al c0 (.cells #[.int .i64 0, .int .i64 0, .int .u32 0] 52)
  have a1 := cell_al c1 (.cells #[.int .i64 0, .int .i64 0, .int .u32 0] 52)
  have a2 := cell_al c2 (.cells #[.int .i64 0, .int .i64 0, .int .u32 0] 52)
  clear h
  go_enter Tryz.func44, Tryz.ntmps44
  go_wp2_with (fail)
  refine bodyPost_ret (v := .agg #[.int .i64 v, .int .i64 m, .int .u32 s]) (by simp [results, Tryz.results44, go_sem]) rfl ⟨rfl, ?_⟩
  exact (Below.refl _ w).alloc (Nat.le_refl _) _
end Go.Proofs.YtgdlpgakhhebeaaGreatDoor
end
