/- Part 39 of the proof of TopWire: Lvd, Lve, Twb, Twl. -/
import Derived.Below
import Derived.Test.YtgdlpgakhhebeaaGreatDoorMg36
import Derived.Test.YtgdlpgakhhebeaaGreatDoorMg38
section
set_option linter.unusedVariables false
namespace Go.Proofs.YtgdlpgakhhebeaaGreatDoor.Ev
open Go
noncomputable section
set_option maxRecDepth 1000000 in
theorem lives_run : isT ((ev Tryz.prog extNew 3000).call 8 [] H0) = true := by kernel_rfl
end
end Go.Proofs.YtgdlpgakhhebeaaGreatDoor.Ev
end
section
set_option linter.unusedVariables false
namespace Go.Proofs.YtgdlpgakhhebeaaGreatDoor.Ev
open Go Go.RowKit
noncomputable section
/-- lives holds, whatever the world, and leaves what lay there as it lay. -/
theorem lives_calls (W : World) : (∀ (args' : Array Value) (W : World), (callFunc 8 args').run Tryz.prog W = .ok (.enter 8 args') W) ∧ Calls Tryz.prog 8 #[] W fun e W' => e = .returned (.bool true) ∧ Below W.heap.size W W' := by
  obtain ⟨H', h1⟩ := isT_eq lives_run
  obtain ⟨c1, c2⟩ := (ev_ok extNew_ok mixed 3000).call 8 [] H0 _ _ h1
  refine ⟨c1, (c2 (fun _ => ⟨0, 0, 0, 0⟩) W #[] (R0 _ W) (LR.nil _ _)).mono ?_⟩
  rintro e W' ⟨v', sg', rfl, r1, r2, r3⟩
  refine ⟨by rw [r3.bool_eq], ⟨r2.os, r2.tape, r2.output, r2.size, fun k hk => r2.same k hk (fun b0 o0 h0 => by cases h0)⟩⟩
end
end Go.Proofs.YtgdlpgakhhebeaaGreatDoor.Ev
end
section
set_option linter.unusedVariables false
set_option linter.unusedSimpArgs false
namespace Go.Proofs.YtgdlpgakhhebeaaGreatDoor
open Go.RowKit Go.Proofs.YtgdlpgakhhebeaaGreatDoorW.PrintWords Go.Proofs.YtgdlpgakhhebeaaGreatDoorW.PrintMore
attribute [local go_sem] Oper.semAt_some
attribute [local go_sem] max2_int min2_int max_two min_two max_three min_three max_four min_four

set_option maxRecDepth 100000 in
set_option maxHeartbeats 4000000 in
theorem topWire_bad (v mtu st : Int) (hs : chkS v mtu ≠ 0) (m : Ms) (w : World) (Ap : Option Addr) (cp : Nat) (Ac : Option Addr) (cc : Nat) (h : MsR w m Ap cp Ac cc) :
    Calls Tryz.prog 6 #[.agg #[.int .i64 v, .int .i64 mtu, .int .u32 st], mV m Ap cp Ac cc] w fun e w' => e = .returned (.bool true) ∧ Below w.heap.size w w' := by
  obtain ⟨s, hsz⟩ : ∃ s, w.heap.size = s := ⟨_, rfl⟩
  obtain ⟨V, hV⟩ : ∃ V, (w.alloc (.cells #[.int .i64 v, .int .i64 mtu, .int .u32 st] 52)).alloc (.cells (m.cs Ap cp Ac cc) 69) = V := ⟨_, rfl⟩
  have v1 : V.heap[s]? = some (.cells #[.int .i64 v, .int .i64 mtu, .int .u32 st] 52) := by rw [← hV, ← hsz]; exact al2_a w _ _
  have v2 : V.heap[s + 1]? = some (.cells (m.cs Ap cp Ac cc) 69) := by rw [← hV, ← hsz]; exact al2_b w _ _
  have v3 : Below s w V := by rw [← hV, ← hsz]; exact ((Below.refl _ w).alloc (Nat.le_refl _) _).alloc (by simp) _
  have HS := Lib.hid hsz
  have HC := Lib.hid (And.intro (lawCut_call m V Ap cp Ac cc (h.below (by have := v3; rw [← hsz] at this; exact this))) (And.intro v1 (And.intro v2 v3)))
  obtain ⟨q, hq⟩ : ∃ q, cutM m = q := ⟨_, rfl⟩
  rw [hq] at HC
  have a0 : V.cell? ⟨(s + 1), 0, none⟩ = some (.int .i64 m.k) := cell_at v2 rfl
  have a1 : V.cell? ⟨(s + 1), 1, none⟩ = some (.int .i64 m.n0) := cell_at v2 rfl
  have a2 : V.cell? ⟨(s + 1), 2, none⟩ = some (.int .i64 m.n1) := cell_at v2 rfl
  have a3 : V.cell? ⟨(s + 1), 3, none⟩ = some (.int .i64 m.n2) := cell_at v2 rfl
  have a4 : V.cell? ⟨(s + 1), 4, none⟩ = some (.int .i64 m.n3) := cell_at v2 rfl
  have a5 : V.cell? ⟨(s + 1), 5, none⟩ = some (.int .i64 m.n4) := cell_at v2 rfl
  have a6 : V.cell? ⟨(s + 1), 6, none⟩ = some (.int .i64 m.n5) := cell_at v2 rfl
  have a7 : V.cell? ⟨(s + 1), 7, none⟩ = some (.slice Ap m.path.length cp) := cell_at v2 rfl
  have a8 : V.cell? ⟨(s + 1), 8, none⟩ = some (.slice Ac m.cells.length cc) := cell_at v2 rfl
  have a9 : V.cell? ⟨(s + 1), 9, none⟩ = some (.string m.text) := cell_at v2 rfl
  have a10 : V.cell? ⟨(s + 1), 10, none⟩ = some (.string m.tag) := cell_at v2 rfl
  clear v1 v2 v3 h hq
  unfold mV
  unfold Ms.cs at *
  go_enter Tryz.func6, Tryz.ntmps6
  go_wp2_with (fail)
  try rw [hV]
  try rw [hsz]
  clear hV hsz
  refine HC.out.1.mono ?_
  rintro e w2 ⟨rfl, hb2⟩
  have x1 := (hb2.block s (Array.getElem?_eq_some_iff.1 HC.out.2.1).1).trans HC.out.2.1
  have x2 := (hb2.block (s + 1) (Array.getElem?_eq_some_iff.1 HC.out.2.2.1).1).trans HC.out.2.2.1
  have x3 := HC.out.2.2.2.trans (hb2.mono (by have := (Array.getElem?_eq_some_iff.1 HC.out.2.1).1; omega))
  have H2 := Lib.hid (And.intro x1 (And.intro x2 x3))
  have a0 : w2.cell? ⟨(s + 1), 0, none⟩ = some (.int .i64 m.k) := cell_at x2 rfl
  have a1 : w2.cell? ⟨(s + 1), 1, none⟩ = some (.int .i64 m.n0) := cell_at x2 rfl
  have a2 : w2.cell? ⟨(s + 1), 2, none⟩ = some (.int .i64 m.n1) := cell_at x2 rfl
  have a3 : w2.cell? ⟨(s + 1), 3, none⟩ = some (.int .i64 m.n2) := cell_at x2 rfl
  have a4 : w2.cell? ⟨(s + 1), 4, none⟩ = some (.int .i64 m.n3) := cell_at x2 rfl
  have a5 : w2.cell? ⟨(s + 1), 5, none⟩ = some (.int .i64 m.n4) := cell_at x2 rfl
  have a6 : w2.cell? ⟨(s + 1), 6, none⟩ = some (.int .i64 m.n5) := cell_at x2 rfl
  have a7 : w2.cell? ⟨(s + 1), 7, none⟩ = some (.slice Ap m.path.length cp) := cell_at x2 rfl
  have a8 : w2.cell? ⟨(s + 1), 8, none⟩ = some (.slice Ac m.cells.length cc) := cell_at x2 rfl
  have a9 : w2.cell? ⟨(s + 1), 9, none⟩ = some (.string m.text) := cell_at x2 rfl
  have a10 : w2.cell? ⟨(s + 1), 10, none⟩ = some (.string m.tag) := cell_at x2 rfl
  have z0 : w2.frozen? ⟨(s + 1), 0, none⟩ = false := frozen_at x2
  have z1 : w2.frozen? ⟨(s + 1), 1, none⟩ = false := frozen_at x2
  have z2 : w2.frozen? ⟨(s + 1), 2, none⟩ = false := frozen_at x2
  have z3 : w2.frozen? ⟨(s + 1), 3, none⟩ = false := frozen_at x2
  have z4 : w2.frozen? ⟨(s + 1), 4, none⟩ = false := frozen_at x2
  have z5 : w2.frozen? ⟨(s + 1), 5, none⟩ = false := frozen_at x2
  have z6 : w2.frozen? ⟨(s + 1), 6, none⟩ = false := frozen_at x2
  have z7 : w2.frozen? ⟨(s + 1), 7, none⟩ = false := frozen_at x2
  have z8 : w2.frozen? ⟨(s + 1), 8, none⟩ = false := frozen_at x2
  have z9 : w2.frozen? ⟨(s + 1), 9, none⟩ = false := frozen_at x2
  have z10 : w2.frozen? ⟨(s + 1), 10, none⟩ = false := frozen_at x2
  clear x1 x2 x3 hb2
  unfold mV Ms.cs
  go_upto_region 2 with (fail)
  show Code.wp _ _ _ _ (st11 w2 (s + 1) (.int .i64 q.k) (.int .i64 q.n0) (.int .i64 q.n1) (.int .i64 q.n2) (.int .i64 q.n3) (.int .i64 q.n4) (.int .i64 q.n5) (.slice Ap q.path.length cp) (.slice Ac q.cells.length cc) (.string q.text) (.string q.tag))
  have y2 := st11_heap H2.out.2.1 (.int .i64 q.k) (.int .i64 q.n0) (.int .i64 q.n1) (.int .i64 q.n2) (.int .i64 q.n3) (.int .i64 q.n4) (.int .i64 q.n5) (.slice Ap q.path.length cp) (.slice Ac q.cells.length cc) (.string q.text) (.string q.tag)
  have st1 : Stab (fun b => b = s + 1) w2.heap.size w2 (st11 w2 (s + 1) (.int .i64 q.k) (.int .i64 q.n0) (.int .i64 q.n1) (.int .i64 q.n2) (.int .i64 q.n3) (.int .i64 q.n4) (.int .i64 q.n5) (.slice Ap q.path.length cp) (.slice Ac q.cells.length cc) (.string q.text) (.string q.tag)) := st11_stab (W := w2) (b := s + 1) (n := w2.heap.size) (.int .i64 q.k) (.int .i64 q.n0) (.int .i64 q.n1) (.int .i64 q.n2) (.int .i64 q.n3) (.int .i64 q.n4) (.int .i64 q.n5) (.slice Ap q.path.length cp) (.slice Ac q.cells.length cc) (.string q.text) (.string q.tag)
  generalize st11 w2 (s + 1) (.int .i64 q.k) (.int .i64 q.n0) (.int .i64 q.n1) (.int .i64 q.n2) (.int .i64 q.n3) (.int .i64 q.n4) (.int .i64 q.n5) (.slice Ap q.path.length cp) (.slice Ac q.cells.length cc) (.string q.text) (.string q.tag) = X at st1 y2 ⊢
  have y1 := st1.heap1 H2.out.1 (by omega)
  have hsz2 : s + 2 ≤ w2.heap.size := (Array.getElem?_eq_some_iff.1 H2.out.2.1).1
  have y3 : Below s w X := st1.one_below H2.out.2.2 (by omega) (by omega) (by omega)
  have y4 : s + 2 ≤ X.heap.size := Nat.le_trans hsz2 st1.size
  have c0 : X.cell? ⟨s, 0, none⟩ = some (.int .i64 v) := cell_at y1 rfl
  have c1 : X.cell? ⟨s, 1, none⟩ = some (.int .i64 mtu) := cell_at y1 rfl
  have c2 : X.cell? ⟨s, 2, none⟩ = some (.int .u32 st) := cell_at y1 rfl
  have HX := Lib.hid (And.intro y1 (And.intro y3 y4))
  have HB := Lib.hid (sendNew_bad v mtu st hs X)
  have hne : (chkS v mtu != 0) = true := by simpa using hs
  have HK := Lib.hid (chkS_f v mtu st)
  generalize chkS v mtu = R at *
  clear hs y1 y2 y3 y4 st1 hsz2 a0 a1 a2 a3 a4 a5 a6 a7 a8 a9 a10 z0 z1 z2 z3 z4 z5 z6 z7 z8 z9 z10
  go_wp2_with (fail)
  refine HB.out.mono ?_
  rintro e w3 ⟨rfl, hb3⟩
  have y1 := (hb3.block s (Array.getElem?_eq_some_iff.1 HX.out.1).1).trans HX.out.1
  have H3 := Lib.hid (And.intro y1 (HX.out.2.1.trans (hb3.mono (by have := HX.out.2.2; omega))))
  have hs3 : s ≤ w3.heap.size := by have := HX.out.2.2; have := hb3.size; omega
  clear hb3 HB HX y1 c0 c1 c2
  go_wp2_with (fail)
  refine (Ev.lives_calls w3).2.mono ?_
  rintro e w4 ⟨rfl, hb4⟩
  have y1 := (hb4.block s (Array.getElem?_eq_some_iff.1 H3.out.1).1).trans H3.out.1
  have H4 := Lib.hid (H3.out.2.trans (hb4.mono hs3))
  have hs4 : s ≤ w4.heap.size := by have := hb4.size; omega
  have d0 : w4.cell? ⟨s, 0, none⟩ = some (.int .i64 v) := cell_at y1 rfl
  have d1 : w4.cell? ⟨s, 1, none⟩ = some (.int .i64 mtu) := cell_at y1 rfl
  have d2 : w4.cell? ⟨s, 2, none⟩ = some (.int .u32 st) := cell_at y1 rfl
  clear hb4 y1 H3
  go_wp2_with (fail)
  refine (P.conf_CheckSender.calls 1 v mtu st R w4 HK.out).mono ?_
  rintro e w5 ⟨rfl, hb5⟩
  have H5 := Lib.hid (H4.out.trans (hb5.mono hs4))
  clear hb5 H4
  go_wp2_with (fail)
  exact bodyPost_ret (v := .bool true) (by simp [results, Tryz.results6, go_sem]) rfl ⟨rfl, by rw [HS.out]; exact H5.out⟩
end Go.Proofs.YtgdlpgakhhebeaaGreatDoor
end
section
set_option linter.unusedVariables false
set_option linter.unusedSimpArgs false
namespace Go.Proofs.YtgdlpgakhhebeaaGreatDoor
open Go.RowKit Go.Proofs.YtgdlpgakhhebeaaGreatDoorW.PrintWords Go.Proofs.YtgdlpgakhhebeaaGreatDoorW.PrintMore

theorem ext_ext (s : ByteArray) : (s.extract 0 (min s.size 80)).extract 0 (min (s.extract 0 (min s.size 80)).size 80) = s.extract 0 (min s.size 80) := by
  have h : (s.extract 0 (min s.size 80)).size = min s.size 80 := by rw [ByteArray.size_extract]; omega
  rw [h, Nat.min_eq_left (by omega : min s.size 80 ≤ 80)]
  apply ByteArray.ext
  rw [ByteArray.data_extract, ByteArray.data_extract, Array.extract_extract]
  congr 1
  omega
theorem cutM_cutM (m : Ms) : cutM (cutM m) = cutM m := by
  unfold cutM
  simp only [List.take_take, Nat.min_self, ext_ext]
theorem ptf_get (r : Nat) (hr : 1 ≤ r) : ∀ (f : Nat) (l : List Int) (j : Nat) (p : List Int), l.length ≤ f → (ptf f r l)[j]? = some p → p.length = min (l.length - j * r) r
  | 0, l, j, p, h, hj => by simp [ptf] at hj
  | f + 1, l, j, p, h, hj => by
    unfold ptf at hj
    split at hj
    · simp at hj
    · rename_i h0
      cases j with
      | zero =>
        simp at hj
        rw [← hj, List.length_take]; omega
      | succ j =>
        simp at hj
        have ih := ptf_get r hr f _ j p (by rw [List.length_drop]; omega) hj
        rw [List.length_drop] at ih
        rw [ih, Nat.succ_mul]
        generalize j * r = z
        generalize l.length = n
        by_cases hle : n ≤ r
        · rw [Nat.min_eq_left hle]; omega
        · rw [Nat.min_eq_right (show r ≤ n by omega)]
          omega
theorem parts_all (n r : Nat) (hr : 1 ≤ r) : n - ((n + r - 1) / r) * r = 0 := by
  have h1 := Nat.div_add_mod (n + r - 1) r
  have h2 := Nat.mod_lt (n + r - 1) (show 0 < r by omega)
  rw [Nat.mul_comm] at h1
  generalize (n + r - 1) / r * r = z at *
  omega
theorem left_next (n r j : Nat) : n - j * r - min (n - j * r) r = n - (j + 1) * r := by
  rw [Nat.succ_mul]
  generalize j * r = z
  omega
/-- How many bytes the row j has. -/
theorem row_len {v : Int} {r : Nat} {nx : Int} {q : Ms} (hv : v = 1 ∨ v = 2) (hm : Fit q) (hk : chk q = 0) (hr : 1 ≤ r ∧ r ≤ 242) {j : Nat} {x : List Int} (h : (rowsF crcT (frF v r nx q))[j]? = some x) : x.length = min ((encM q v).length - j * r) r + 15 ∧ 1 ≤ min ((encM q v).length - j * r) r := by
  unfold rowsF at h
  rw [List.getElem?_map] at h
  obtain ⟨f, hf, rfl⟩ := Option.map_eq_some_iff.1 h
  have hp := frF_get hv hm hk hr hf
  have hj : j < (ptf (encM q v).length r (encM q v)).length := by
    have := (List.getElem?_eq_some_iff.1 hf).1
    rwa [frF, frs_len] at this
  have hg := frs_get v q.k nx ((((encM q v).length + r - 1) / r : Nat) : Int) (ptf (encM q v).length r (encM q v)) 0 j _ (List.getElem?_eq_getElem hj)
  rw [frF, hg] at hf
  cases hf
  have hl := ptf_get r hr.1 _ _ j _ (Nat.le_refl _) (List.getElem?_eq_getElem hj)
  simp only at hp ⊢
  rw [← hl]
  refine ⟨?_, hp.2.1⟩
  rw [List.length_append, List.length_append, segm_len _ _ _ hp.2.2]
  simp
  omega
theorem sndR_one (v : Int) (r : Nat) (nx : Int) (m : Ms) : sndR crcT v r nx [cutM m] = if chk (cutM m) = 0 then rowsF crcT (frF v r nx (cutM m)) else [] := by
  unfold sndR sndR
  rw [cutM_cutM, List.append_nil]
theorem k69_mkK {w : World} {x : Ms} {Ap Ac : Option Addr} {cp cc : Nat} (h : MsR w x Ap cp Ac cc) : k69.K w x (x.cs Ap cp Ac cc).toList :=
  ⟨[_], _, rfl, rfl, ⟨[_], _, rfl, rfl, ⟨[_], _, rfl, rfl, ⟨[_], _, rfl, rfl, ⟨[_], _, rfl, rfl, ⟨[_], _, rfl, rfl, ⟨[_], _, rfl, rfl, ⟨[_], _, rfl, ⟨Ap, cp, rfl, h.lp, h.path⟩, ⟨[_], [_, _], rfl, ⟨Ac, cc, rfl, h.lc, h.cells⟩, ⟨[_], [_], rfl, rfl, rfl⟩⟩⟩⟩⟩⟩⟩⟩⟩⟩
theorem C69_one {w : World} {x : Ms} {Ap Ac : Option Addr} {cp cc b : Nat} (h : MsR w x Ap cp Ac cc) (hb : w.heap[b]? = some (.cells (x.cs Ap cp Ac cc) 69)) : Kd.C k69 w (some ⟨b, 0, none⟩) 1 [x] := by
  refine ⟨rfl, by omega, fun _ => ⟨_, rfl, fun j p hj => ?_⟩⟩
  cases j with
  | succ j => simp at hj
  | zero =>
    simp at hj
    subst hj
    refine ⟨_, rfl, k69_mkK h, fun i u hu => ?_⟩
    rw [Addr.add_lit, show 0 + (0 * k69.sz + i) = i by omega]
    exact cell_at hb (by rw [← hu]; simp)
end Go.Proofs.YtgdlpgakhhebeaaGreatDoor
end
