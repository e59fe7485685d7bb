/- Part 40 of the proof of TopWire: Twg. -/
import Derived.Test.YtgdlpgakhhebeaaGreatDoorMg39
set_option linter.unusedVariables false
set_option linter.unusedSimpArgs false
namespace Go.Proofs.YtgdlpgakhhebeaaGreatDoor
open Go.RowKit Go.Proofs.YtgdlpgakhhebeaaGreatDoorW.PrintWords Go.Proofs.YtgdlpgakhhebeaaGreatDoorW.PrintMore
attribute [local go_sem] Oper.semAt_some
attribute [local go_sem] max2_int min2_int max_two min_two max_three min_three max_four min_four

theorem atRow {w : World} {A : Option Addr} {n : Nat} {xs : List (List Int)} (h : Kd.C kRow w A n xs) (i : Nat) (h1 : i < n) : ∃ ad x Ax c, A = some ad ∧ xs[i]? = some x ∧ w.cell? (ad.add i) = some (.slice Ax x.length c) := by
  obtain ⟨ad, c, e, _, hK, hc0⟩ := Kd.C_get h ([] : List Int) (i : Int) (by omega) (by omega)
  rw [Int.toNat_natCast] at hK hc0
  have hx : xs[i]? = some (xs.getD i []) := by
    have : i < xs.length := by have := h.1; omega
    rw [List.getD_eq_getElem?_getD, List.getElem?_eq_getElem this]; rfl
  obtain ⟨Ax, cx, rfl, _, _⟩ := hK
  have := hc0 0 _ rfl
  exact ⟨ad, _, Ax, cx, e, hx, by simpa [show kRow.sz = 1 from rfl] using this⟩
set_option maxRecDepth 100000 in
set_option maxHeartbeats 8000000 in
theorem topWire_good (v mtu st : Int) (hs : chkS v mtu = 0) (m : Ms) (w : World) (Ap : Option Addr) (cp : Nat) (Ac : Option Addr) (cc : Nat) (h : MsR w m Ap cp Ac cc) :
    Calls Tryz.prog 6 #[.agg #[.int .i64 v, .int .i64 mtu, .int .u32 st], mV m Ap cp Ac cc] w fun e w' => e = .returned (.bool true) ∧ Below w.heap.size w w' := by
  obtain ⟨r, hr⟩ : ∃ r : Nat, mtu - 15 = (r : Int) := ⟨(mtu - 15).toNat, by have := chkS_ok hs; omega⟩
  have hrr : 1 ≤ r ∧ r ≤ 242 := by have := chkS_ok hs; omega
  have HR := Lib.hid (And.intro hs (And.intro hr hrr))
  have HQ := Lib.hid (And.intro (msr_cut h) (And.intro (fit_cut m) (sndR_one v r st m)))
  clear hr hrr
  obtain ⟨s, hsz⟩ : ∃ s, w.heap.size = s := ⟨_, rfl⟩
  obtain ⟨V, hV⟩ : ∃ V, (w.alloc (.cells #[.int .i64 v, .int .i64 mtu, .int .u32 st] 52)).alloc (.cells (m.cs Ap cp Ac cc) 69) = V := ⟨_, rfl⟩
  have v1 : V.heap[s]? = some (.cells #[.int .i64 v, .int .i64 mtu, .int .u32 st] 52) := by rw [← hV, ← hsz]; exact al2_a w _ _
  have v2 : V.heap[s + 1]? = some (.cells (m.cs Ap cp Ac cc) 69) := by rw [← hV, ← hsz]; exact al2_b w _ _
  have v3 : Below s w V := by rw [← hV, ← hsz]; exact ((Below.refl _ w).alloc (Nat.le_refl _) _).alloc (by simp) _
  have HS := Lib.hid hsz
  have HC := Lib.hid (And.intro (lawCut_call m V Ap cp Ac cc (h.below (by have := v3; rw [← hsz] at this; exact this))) (And.intro v1 (And.intro v2 v3)))
  obtain ⟨q, hq⟩ : ∃ q, cutM m = q := ⟨_, rfl⟩
  rw [hq] at HC HQ
  have a0 : V.cell? ⟨(s + 1), 0, none⟩ = some (.int .i64 m.k) := cell_at v2 rfl
  have a1 : V.cell? ⟨(s + 1), 1, none⟩ = some (.int .i64 m.n0) := cell_at v2 rfl
  have a2 : V.cell? ⟨(s + 1), 2, none⟩ = some (.int .i64 m.n1) := cell_at v2 rfl
  have a3 : V.cell? ⟨(s + 1), 3, none⟩ = some (.int .i64 m.n2) := cell_at v2 rfl
  have a4 : V.cell? ⟨(s + 1), 4, none⟩ = some (.int .i64 m.n3) := cell_at v2 rfl
  have a5 : V.cell? ⟨(s + 1), 5, none⟩ = some (.int .i64 m.n4) := cell_at v2 rfl
  have a6 : V.cell? ⟨(s + 1), 6, none⟩ = some (.int .i64 m.n5) := cell_at v2 rfl
  have a7 : V.cell? ⟨(s + 1), 7, none⟩ = some (.slice Ap m.path.length cp) := cell_at v2 rfl
  have a8 : V.cell? ⟨(s + 1), 8, none⟩ = some (.slice Ac m.cells.length cc) := cell_at v2 rfl
  have a9 : V.cell? ⟨(s + 1), 9, none⟩ = some (.string m.text) := cell_at v2 rfl
  have a10 : V.cell? ⟨(s + 1), 10, none⟩ = some (.string m.tag) := cell_at v2 rfl
  clear v1 v2 v3 h hq
  unfold mV
  unfold Ms.cs at *
  go_enter Tryz.func6, Tryz.ntmps6
  go_wp2_with (fail)
  try rw [hV]
  try rw [hsz]
  clear hV hsz
  refine HC.out.1.mono ?_
  rintro e w2 ⟨rfl, hb2⟩
  have x1 := (hb2.block s (Array.getElem?_eq_some_iff.1 HC.out.2.1).1).trans HC.out.2.1
  have x2 := (hb2.block (s + 1) (Array.getElem?_eq_some_iff.1 HC.out.2.2.1).1).trans HC.out.2.2.1
  have x3 := HC.out.2.2.2.trans (hb2.mono (by have := (Array.getElem?_eq_some_iff.1 HC.out.2.1).1; omega))
  have H2 := Lib.hid (And.intro x1 (And.intro x2 x3))
  have a0 : w2.cell? ⟨(s + 1), 0, none⟩ = some (.int .i64 m.k) := cell_at x2 rfl
  have a1 : w2.cell? ⟨(s + 1), 1, none⟩ = some (.int .i64 m.n0) := cell_at x2 rfl
  have a2 : w2.cell? ⟨(s + 1), 2, none⟩ = some (.int .i64 m.n1) := cell_at x2 rfl
  have a3 : w2.cell? ⟨(s + 1), 3, none⟩ = some (.int .i64 m.n2) := cell_at x2 rfl
  have a4 : w2.cell? ⟨(s + 1), 4, none⟩ = some (.int .i64 m.n3) := cell_at x2 rfl
  have a5 : w2.cell? ⟨(s + 1), 5, none⟩ = some (.int .i64 m.n4) := cell_at x2 rfl
  have a6 : w2.cell? ⟨(s + 1), 6, none⟩ = some (.int .i64 m.n5) := cell_at x2 rfl
  have a7 : w2.cell? ⟨(s + 1), 7, none⟩ = some (.slice Ap m.path.length cp) := cell_at x2 rfl
  have a8 : w2.cell? ⟨(s + 1), 8, none⟩ = some (.slice Ac m.cells.length cc) := cell_at x2 rfl
  have a9 : w2.cell? ⟨(s + 1), 9, none⟩ = some (.string m.text) := cell_at x2 rfl
  have a10 : w2.cell? ⟨(s + 1), 10, none⟩ = some (.string m.tag) := cell_at x2 rfl
  have z0 : w2.frozen? ⟨(s + 1), 0, none⟩ = false := frozen_at x2
  have z1 : w2.frozen? ⟨(s + 1), 1, none⟩ = false := frozen_at x2
  have z2 : w2.frozen? ⟨(s + 1), 2, none⟩ = false := frozen_at x2
  have z3 : w2.frozen? ⟨(s + 1), 3, none⟩ = false := frozen_at x2
  have z4 : w2.frozen? ⟨(s + 1), 4, none⟩ = false := frozen_at x2
  have z5 : w2.frozen? ⟨(s + 1), 5, none⟩ = false := frozen_at x2
  have z6 : w2.frozen? ⟨(s + 1), 6, none⟩ = false := frozen_at x2
  have z7 : w2.frozen? ⟨(s + 1), 7, none⟩ = false := frozen_at x2
  have z8 : w2.frozen? ⟨(s + 1), 8, none⟩ = false := frozen_at x2
  have z9 : w2.frozen? ⟨(s + 1), 9, none⟩ = false := frozen_at x2
  have z10 : w2.frozen? ⟨(s + 1), 10, none⟩ = false := frozen_at x2
  clear x1 x2 x3 hb2
  unfold mV Ms.cs
  go_upto_region 2 with (fail)
  show Code.wp _ _ _ _ (st11 w2 (s + 1) (.int .i64 q.k) (.int .i64 q.n0) (.int .i64 q.n1) (.int .i64 q.n2) (.int .i64 q.n3) (.int .i64 q.n4) (.int .i64 q.n5) (.slice Ap q.path.length cp) (.slice Ac q.cells.length cc) (.string q.text) (.string q.tag))
  have y2 := st11_heap H2.out.2.1 (.int .i64 q.k) (.int .i64 q.n0) (.int .i64 q.n1) (.int .i64 q.n2) (.int .i64 q.n3) (.int .i64 q.n4) (.int .i64 q.n5) (.slice Ap q.path.length cp) (.slice Ac q.cells.length cc) (.string q.text) (.string q.tag)
  have st1 : Stab (fun b => b = s + 1) w2.heap.size w2 (st11 w2 (s + 1) (.int .i64 q.k) (.int .i64 q.n0) (.int .i64 q.n1) (.int .i64 q.n2) (.int .i64 q.n3) (.int .i64 q.n4) (.int .i64 q.n5) (.slice Ap q.path.length cp) (.slice Ac q.cells.length cc) (.string q.text) (.string q.tag)) := st11_stab (W := w2) (b := s + 1) (n := w2.heap.size) (.int .i64 q.k) (.int .i64 q.n0) (.int .i64 q.n1) (.int .i64 q.n2) (.int .i64 q.n3) (.int .i64 q.n4) (.int .i64 q.n5) (.slice Ap q.path.length cp) (.slice Ac q.cells.length cc) (.string q.text) (.string q.tag)
  generalize st11 w2 (s + 1) (.int .i64 q.k) (.int .i64 q.n0) (.int .i64 q.n1) (.int .i64 q.n2) (.int .i64 q.n3) (.int .i64 q.n4) (.int .i64 q.n5) (.slice Ap q.path.length cp) (.slice Ac q.cells.length cc) (.string q.text) (.string q.tag) = X at st1 y2 ⊢
  have y1 := st1.heap1 H2.out.1 (by omega)
  have hsz2 : s + 2 ≤ w2.heap.size := (Array.getElem?_eq_some_iff.1 H2.out.2.1).1
  have y3 : Below s w X := st1.one_below H2.out.2.2 (by omega) (by omega) (by omega)
  have y4 : s + 2 ≤ X.heap.size := Nat.le_trans hsz2 st1.size
  have c0 : X.cell? ⟨s, 0, none⟩ = some (.int .i64 v) := cell_at y1 rfl
  have c1 : X.cell? ⟨s, 1, none⟩ = some (.int .i64 mtu) := cell_at y1 rfl
  have c2 : X.cell? ⟨s, 2, none⟩ = some (.int .u32 st) := cell_at y1 rfl
  have HX := Lib.hid (And.intro y1 (And.intro y3 (And.intro y4 y2)))
  have HB := Lib.hid (sendNew_call v mtu st hs X)
  clear hs y1 y2 y3 y4 st1 hsz2 a0 a1 a2 a3 a4 a5 a6 a7 a8 a9 a10 z0 z1 z2 z3 z4 z5 z6 z7 z8 z9 z10
  go_wp2_with (fail)
  refine HB.out.mono ?_
  rintro e w3 ⟨g, cb, k, off, rfl, hgX, hSn, hcb, hT, hb3⟩
  have x1 := (hb3.block s (Array.getElem?_eq_some_iff.1 HX.out.1).1).trans HX.out.1
  have x2 := (hb3.block (s + 1) (Array.getElem?_eq_some_iff.1 HX.out.2.2.2).1).trans HX.out.2.2.2
  have x3 := HX.out.2.1.trans (hb3.mono (by have := HX.out.2.2.1; omega))
  have hgl : g < w3.heap.size := (Array.getElem?_eq_some_iff.1 hSn).1
  have hgs : s + 2 ≤ g := Nat.le_trans HX.out.2.2.1 hgX
  have H3 := Lib.hid (And.intro x1 (And.intro x2 (And.intro x3 (And.intro hgl (And.intro hgs hSn)))))
  have a0 : w3.cell? ⟨(s + 1), 0, none⟩ = some (.int .i64 q.k) := cell_at x2 rfl
  have a1 : w3.cell? ⟨(s + 1), 1, none⟩ = some (.int .i64 q.n0) := cell_at x2 rfl
  have a2 : w3.cell? ⟨(s + 1), 2, none⟩ = some (.int .i64 q.n1) := cell_at x2 rfl
  have a3 : w3.cell? ⟨(s + 1), 3, none⟩ = some (.int .i64 q.n2) := cell_at x2 rfl
  have a4 : w3.cell? ⟨(s + 1), 4, none⟩ = some (.int .i64 q.n3) := cell_at x2 rfl
  have a5 : w3.cell? ⟨(s + 1), 5, none⟩ = some (.int .i64 q.n4) := cell_at x2 rfl
  have a6 : w3.cell? ⟨(s + 1), 6, none⟩ = some (.int .i64 q.n5) := cell_at x2 rfl
  have a7 : w3.cell? ⟨(s + 1), 7, none⟩ = some (.slice Ap q.path.length cp) := cell_at x2 rfl
  have a8 : w3.cell? ⟨(s + 1), 8, none⟩ = some (.slice Ac q.cells.length cc) := cell_at x2 rfl
  have a9 : w3.cell? ⟨(s + 1), 9, none⟩ = some (.string q.text) := cell_at x2 rfl
  have a10 : w3.cell? ⟨(s + 1), 10, none⟩ = some (.string q.tag) := cell_at x2 rfl
  have bA : Below w3.heap.size w3 (w3.alloc (.cells (q.cs Ap cp Ac cc) 69)) := (Below.refl _ _).alloc (Nat.le_refl _) _
  have hqb := World.alloc_heap_new w3 (.cells (q.cs Ap cp Ac cc) 69)
  have hse := sends_call [q] (by simp) v mtu st st 0 cb g HR.out.1 r HR.out.2.1 (w3.alloc (.cells (q.cs Ap cp Ac cc) 69)) ((bA.block g hgl).trans hSn) (some ⟨w3.heap.size, 0, none⟩) 1 (by simp)
    (fun ad e => by cases e; exact ⟨by simp, by show w3.heap.size ≠ g; omega⟩) (fun U hU => by
      have hk := hU.same _ _ hqb ⟨by simp, by omega⟩
      have hbU : Below w.heap.size w U := by
        have := HS.out
        refine ((x3.trans (bA.mono (by omega))).mono (by omega)).trans ((hU.mono (fun b hb => ⟨?_, ?_⟩)).to_below ?_)
        · have := x3.size; simp; omega
        · omega
        · have := x3.size; simp; omega
      exact C69_one (HQ.out.1.below hbU) hk)
  rw [HQ.out.2.2] at hse
  have HSE := Lib.hid hse
  clear hse hqb bA x1 x2 x3 hb3 hT hcb hSn hgX hgl hgs HB HX c0 c1 c2
  go_wp2_with (fail)
  refine HSE.out.mono ?_
  rintro e w5 ⟨vr, vl, rfl, hRr, hRl, -, hk5⟩
  obtain ⟨Ar, cr, rfl⟩ := Kd.R_slice hRr
  obtain ⟨Al, cl, rfl⟩ := Kd.R_slice hRl
  have x1 := H3.out.1
  have x2 := H3.out.2.1
  have x3 := H3.out.2.2.1
  have hgs := H3.out.2.2.2.2.1
  have hs3 := x3.size
  have hl1 := (Array.getElem?_eq_some_iff.1 x2).1
  rw [HS.out] at hs3
  have bA : Below w3.heap.size w3 (w3.alloc (.cells (q.cs Ap cp Ac cc) 69)) := (Below.refl _ _).alloc (Nat.le_refl _) _
  have y1 := hk5.same _ _ ((bA.block s (by omega)).trans x1) (by omega)
  have y2 := hk5.same _ _ ((bA.block (s + 1) hl1).trans x2) (by omega)
  have y3 : Below s w w5 := (x3.trans (bA.mono (by omega))).trans ((hk5.mono (fun b hb => (by omega : b ≠ g))).to_below (by have := bA.size; omega))
  have y4 := (Array.getElem?_eq_some_iff.1 y2).1
  clear x1 x2 x3 hgs hs3 hl1 bA HSE H3 hk5 hRl
  generalize (sndM v [q]).length = N
  obtain ⟨L, hL⟩ : ∃ L, (if chk q = 0 then rowsF crcT (frF v r st q) else []).length = L := ⟨_, rfl⟩
  rw [hL] at hRr ⊢
  go_upto_region 6 with (fail)
  have z3 := World.alloc_heap_new w5 (.cells #[.slice Ar L cr, .slice Al N cl] 61)
  have bB : Below w5.heap.size w5 (w5.alloc (.cells #[.slice Ar L cr, .slice Al N cl] 61)) := (Below.refl _ _).alloc (Nat.le_refl _) _
  have hRw := Kd.R_below hRr bB
  generalize w5.alloc (.cells #[.slice Ar L cr, .slice Al N cl] 61) = W at z3 bB hRw ⊢
  have z1 := (bB.block s (by omega)).trans y1
  have z2 := (bB.block (s + 1) y4).trans y2
  have z4 := y3.trans (bB.mono (by omega))
  obtain ⟨t, ht⟩ : ∃ t, w5.heap.size = t := ⟨_, rfl⟩
  rw [ht] at z3 y4 ⊢
  have hmc := mcheck_call q W Ap cp Ac cc (HQ.out.1.below (by rw [HS.out]; exact z4)) HQ.out.2.1
  have HW := Lib.hid (And.intro z1 (And.intro z2 (And.intro z3 (And.intro z4 (And.intro y4 (And.intro hL hRw))))))
  have a0 : W.cell? ⟨(s + 1), 0, none⟩ = some (.int .i64 q.k) := cell_at z2 rfl
  have a1 : W.cell? ⟨(s + 1), 1, none⟩ = some (.int .i64 q.n0) := cell_at z2 rfl
  have a2 : W.cell? ⟨(s + 1), 2, none⟩ = some (.int .i64 q.n1) := cell_at z2 rfl
  have a3 : W.cell? ⟨(s + 1), 3, none⟩ = some (.int .i64 q.n2) := cell_at z2 rfl
  have a4 : W.cell? ⟨(s + 1), 4, none⟩ = some (.int .i64 q.n3) := cell_at z2 rfl
  have a5 : W.cell? ⟨(s + 1), 5, none⟩ = some (.int .i64 q.n4) := cell_at z2 rfl
  have a6 : W.cell? ⟨(s + 1), 6, none⟩ = some (.int .i64 q.n5) := cell_at z2 rfl
  have a7 : W.cell? ⟨(s + 1), 7, none⟩ = some (.slice Ap q.path.length cp) := cell_at z2 rfl
  have a8 : W.cell? ⟨(s + 1), 8, none⟩ = some (.slice Ac q.cells.length cc) := cell_at z2 rfl
  have a9 : W.cell? ⟨(s + 1), 9, none⟩ = some (.string q.text) := cell_at z2 rfl
  have a10 : W.cell? ⟨(s + 1), 10, none⟩ = some (.string q.tag) := cell_at z2 rfl
  have HM := Lib.hid hmc
  clear hL hRw hRr bB ht y1 y2 y3 hmc z1 z2 z3 z4
  go_wp2_with (fail)
  refine HM.out.mono ?_
  rintro e w6 ⟨rfl, hb6⟩
  have z1 := (hb6.block s (Array.getElem?_eq_some_iff.1 HW.out.1).1).trans HW.out.1
  have z2 := (hb6.block (s + 1) (Array.getElem?_eq_some_iff.1 HW.out.2.1).1).trans HW.out.2.1
  have z3 := (hb6.block t (Array.getElem?_eq_some_iff.1 HW.out.2.2.1).1).trans HW.out.2.2.1
  have z4 := HW.out.2.2.2.1.trans (hb6.mono (by have := (Array.getElem?_eq_some_iff.1 HW.out.2.2.1).1; have := HW.out.2.2.2.2.1; omega))
  have hRw := Kd.R_below HW.out.2.2.2.2.2.2 hb6
  have hL := HW.out.2.2.2.2.2.1
  have y4 := HW.out.2.2.2.2.1
  clear HW HM hb6 a0 a1 a2 a3 a4 a5 a6 a7 a8 a9 a10
  by_cases hk : chk q = 0
  · rw [if_pos hk] at hL hRw
    rw [hk]
    have hrr := HR.out.2.2
    have hmt : mtu = (r : Int) + 15 := by have := HR.out.2.1; omega
    have hsz := size_call q v (chkS_ok HR.out.1).1 hk w6.drew Ap cp Ac cc (HQ.out.1.below (by rw [HS.out]; exact z4.drew)) HQ.out.2.1
    have hlen := encM_len q v (chkS_ok HR.out.1).1 HQ.out.2.1 hk
    have hfl := frF_len (nx := st) (chkS_ok HR.out.1).1 HQ.out.2.1 hk hrr
    have hLf : L = ((encM q v).length + r - 1) / r := by rw [← hL, rowsF, List.length_map]; exact hfl.1
    have HF := Lib.hid (And.intro hL (And.intro hfl hk))
    rw [hmt] at z1
    clear hL hfl hk
    have HZ := Lib.hid (And.intro z1 (And.intro z2 (And.intro z3 (And.intro z4 (And.intro y4 (And.intro hRw hsz))))))
    obtain ⟨n, hn⟩ : ∃ n, (encM q v).length = n := ⟨_, rfl⟩
    rw [hn] at hlen hLf
    have HN := Lib.hid (And.intro hn (And.intro hmt hLf))
    clear hsz hRw z4 z3 hmt hLf hn
    go_upto_region 8 with (fail)
    refine wp_region_hoist [(0, true), (1, true), (2, true), (4, true), (5, true), (6, true), (3, false), (7, true), (8, true)] (fun w' => w'.heap[s]? = some (.cells #[.int .i64 v, .int .i64 ((r : Int) + 15), .int .u32 st] 52) ∧ w'.heap[s + 1]? = some (.cells #[.int .i64 q.k, .int .i64 q.n0, .int .i64 q.n1, .int .i64 q.n2, .int .i64 q.n3, .int .i64 q.n4, .int .i64 q.n5, .slice Ap q.path.length cp, .slice Ac q.cells.length cc, .string q.text, .string q.tag] 69)) (by kernel_rfl) (by kernel_rfl) ?_
    apply wpH_readL _ rfl rfl rfl
    · intro w' hw'
      obtain ⟨h1, h2⟩ := hw'
      have f0 := cell_at (j := 0) h1 rfl
      have f1 := cell_at (j := 1) h1 rfl
      have a0 : w'.cell? ⟨(s + 1), 0, none⟩ = some (.int .i64 q.k) := cell_at h2 rfl
      have a1 : w'.cell? ⟨(s + 1), 1, none⟩ = some (.int .i64 q.n0) := cell_at h2 rfl
      have a2 : w'.cell? ⟨(s + 1), 2, none⟩ = some (.int .i64 q.n1) := cell_at h2 rfl
      have a3 : w'.cell? ⟨(s + 1), 3, none⟩ = some (.int .i64 q.n2) := cell_at h2 rfl
      have a4 : w'.cell? ⟨(s + 1), 4, none⟩ = some (.int .i64 q.n3) := cell_at h2 rfl
      have a5 : w'.cell? ⟨(s + 1), 5, none⟩ = some (.int .i64 q.n4) := cell_at h2 rfl
      have a6 : w'.cell? ⟨(s + 1), 6, none⟩ = some (.int .i64 q.n5) := cell_at h2 rfl
      have a7 : w'.cell? ⟨(s + 1), 7, none⟩ = some (.slice Ap q.path.length cp) := cell_at h2 rfl
      have a8 : w'.cell? ⟨(s + 1), 8, none⟩ = some (.slice Ac q.cells.length cc) := cell_at h2 rfl
      have a9 : w'.cell? ⟨(s + 1), 9, none⟩ = some (.string q.text) := cell_at h2 rfl
      have a10 : w'.cell? ⟨(s + 1), 10, none⟩ = some (.string q.tag) := cell_at h2 rfl
      clear h1 h2
      go_simp; exact ⟨rfl, rfl⟩
    simp only [List.set_cons_zero, List.set_cons_succ]
    apply wpH_readL _ rfl rfl rfl
    · intro w' hw'; clear hw'; go_simp; exact ⟨rfl, rfl⟩
    simp only [List.set_cons_zero, List.set_cons_succ]
    apply wpH_readL _ rfl rfl rfl
    · intro w' hw'
      obtain ⟨h1, h2⟩ := hw'
      have f0 := cell_at (j := 0) h1 rfl
      have f1 := cell_at (j := 1) h1 rfl
      have a0 : w'.cell? ⟨(s + 1), 0, none⟩ = some (.int .i64 q.k) := cell_at h2 rfl
      have a1 : w'.cell? ⟨(s + 1), 1, none⟩ = some (.int .i64 q.n0) := cell_at h2 rfl
      have a2 : w'.cell? ⟨(s + 1), 2, none⟩ = some (.int .i64 q.n1) := cell_at h2 rfl
      have a3 : w'.cell? ⟨(s + 1), 3, none⟩ = some (.int .i64 q.n2) := cell_at h2 rfl
      have a4 : w'.cell? ⟨(s + 1), 4, none⟩ = some (.int .i64 q.n3) := cell_at h2 rfl
      have a5 : w'.cell? ⟨(s + 1), 5, none⟩ = some (.int .i64 q.n4) := cell_at h2 rfl
      have a6 : w'.cell? ⟨(s + 1), 6, none⟩ = some (.int .i64 q.n5) := cell_at h2 rfl
      have a7 : w'.cell? ⟨(s + 1), 7, none⟩ = some (.slice Ap q.path.length cp) := cell_at h2 rfl
      have a8 : w'.cell? ⟨(s + 1), 8, none⟩ = some (.slice Ac q.cells.length cc) := cell_at h2 rfl
      have a9 : w'.cell? ⟨(s + 1), 9, none⟩ = some (.string q.text) := cell_at h2 rfl
      have a10 : w'.cell? ⟨(s + 1), 10, none⟩ = some (.string q.tag) := cell_at h2 rfl
      clear h1 h2
      go_simp; exact ⟨rfl, rfl⟩
    simp only [List.set_cons_zero, List.set_cons_succ]
    apply wpH_readL _ rfl rfl rfl
    · intro w' hw'; clear hw'; go_simp; exact ⟨rfl, rfl⟩
    simp only [List.set_cons_zero, List.set_cons_succ]
    apply wpH_readL _ rfl rfl rfl
    · intro w' hw'
      obtain ⟨h1, h2⟩ := hw'
      have f0 := cell_at (j := 0) h1 rfl
      have f1 := cell_at (j := 1) h1 rfl
      have a0 : w'.cell? ⟨(s + 1), 0, none⟩ = some (.int .i64 q.k) := cell_at h2 rfl
      have a1 : w'.cell? ⟨(s + 1), 1, none⟩ = some (.int .i64 q.n0) := cell_at h2 rfl
      have a2 : w'.cell? ⟨(s + 1), 2, none⟩ = some (.int .i64 q.n1) := cell_at h2 rfl
      have a3 : w'.cell? ⟨(s + 1), 3, none⟩ = some (.int .i64 q.n2) := cell_at h2 rfl
      have a4 : w'.cell? ⟨(s + 1), 4, none⟩ = some (.int .i64 q.n3) := cell_at h2 rfl
      have a5 : w'.cell? ⟨(s + 1), 5, none⟩ = some (.int .i64 q.n4) := cell_at h2 rfl
      have a6 : w'.cell? ⟨(s + 1), 6, none⟩ = some (.int .i64 q.n5) := cell_at h2 rfl
      have a7 : w'.cell? ⟨(s + 1), 7, none⟩ = some (.slice Ap q.path.length cp) := cell_at h2 rfl
      have a8 : w'.cell? ⟨(s + 1), 8, none⟩ = some (.slice Ac q.cells.length cc) := cell_at h2 rfl
      have a9 : w'.cell? ⟨(s + 1), 9, none⟩ = some (.string q.text) := cell_at h2 rfl
      have a10 : w'.cell? ⟨(s + 1), 10, none⟩ = some (.string q.tag) := cell_at h2 rfl
      clear h1 h2
      go_simp; exact ⟨rfl, rfl⟩
    simp only [List.set_cons_zero, List.set_cons_succ]
    apply wpH_readL _ rfl rfl rfl
    · intro w' hw'
      obtain ⟨h1, h2⟩ := hw'
      have f0 := cell_at (j := 0) h1 rfl
      have f1 := cell_at (j := 1) h1 rfl
      have a0 : w'.cell? ⟨(s + 1), 0, none⟩ = some (.int .i64 q.k) := cell_at h2 rfl
      have a1 : w'.cell? ⟨(s + 1), 1, none⟩ = some (.int .i64 q.n0) := cell_at h2 rfl
      have a2 : w'.cell? ⟨(s + 1), 2, none⟩ = some (.int .i64 q.n1) := cell_at h2 rfl
      have a3 : w'.cell? ⟨(s + 1), 3, none⟩ = some (.int .i64 q.n2) := cell_at h2 rfl
      have a4 : w'.cell? ⟨(s + 1), 4, none⟩ = some (.int .i64 q.n3) := cell_at h2 rfl
      have a5 : w'.cell? ⟨(s + 1), 5, none⟩ = some (.int .i64 q.n4) := cell_at h2 rfl
      have a6 : w'.cell? ⟨(s + 1), 6, none⟩ = some (.int .i64 q.n5) := cell_at h2 rfl
      have a7 : w'.cell? ⟨(s + 1), 7, none⟩ = some (.slice Ap q.path.length cp) := cell_at h2 rfl
      have a8 : w'.cell? ⟨(s + 1), 8, none⟩ = some (.slice Ac q.cells.length cc) := cell_at h2 rfl
      have a9 : w'.cell? ⟨(s + 1), 9, none⟩ = some (.string q.text) := cell_at h2 rfl
      have a10 : w'.cell? ⟨(s + 1), 10, none⟩ = some (.string q.tag) := cell_at h2 rfl
      clear h1 h2
      go_simp; exact ⟨rfl, rfl⟩
    simp only [List.set_cons_zero, List.set_cons_succ]
    apply wpH_callL (f := 28) (args := #[mV q Ap cp Ac cc, .int .i64 v]) (fun _ => trivial) rfl rfl rfl ⟨z1, z2⟩ rfl (fun c h => by cases h) (by kernel_rfl)
    refine callsIn_wide.2 (HZ.out.2.2.2.2.2.2.mono ?_)
    rintro e w7 ⟨rfl, hb7⟩
    refine ⟨_, rfl, ?_⟩
    simp only [List.set_cons_zero, List.set_cons_succ]
    have hb7 : Below w6.heap.size w6 w7 := ((Below.refl _ w6).drew).trans hb7
    have e1 := (hb7.block s (Array.getElem?_eq_some_iff.1 HZ.out.1).1).trans HZ.out.1
    have e2 := (hb7.block (s + 1) (Array.getElem?_eq_some_iff.1 HZ.out.2.1).1).trans HZ.out.2.1
    apply wpH_readL _ rfl rfl rfl
    · intro w' hw'; clear hw'; go_simp; exact ⟨rfl, rfl⟩
    simp only [List.set_cons_zero, List.set_cons_succ]
    apply wpH_readL _ rfl rfl rfl
    · intro w' hw'; clear hw'; go_simp; exact ⟨rfl, rfl⟩
    simp only [List.set_cons_zero, List.set_cons_succ]
    refine wpH_end ⟨e1, e2⟩ ?_
    have hwr : IntKind.i64.wrap (r : Int) = r := by rw [IntKind.wrap_i64]; first | omega | (unfold wrap64; omega)
    rw [hwr]
    clear hwr
    rw [HN.out.1]
    have e3 := (hb7.block t (Array.getElem?_eq_some_iff.1 HZ.out.2.2.1).1).trans HZ.out.2.2.1
    have e4 := HZ.out.2.2.2.1.trans (hb7.mono (by have := (Array.getElem?_eq_some_iff.1 HZ.out.2.2.1).1; have := HZ.out.2.2.2.2.1; omega))
    have y4 := HZ.out.2.2.2.2.1
    have hRw := Kd.R_below HZ.out.2.2.2.2.2.1 hb7
    have HE := Lib.hid (And.intro e1 (And.intro e3 (And.intro e4 hRw)))
    have u0 := cell_at (j := 0) e3 rfl
    clear HZ hb7 z1 z2 e2 e3 e4 hRw e1
    have hr1 : ¬ r = 0 := by omega
    have hLf := HN.out.2.2
    obtain ⟨a, ha⟩ : ∃ a, n + r = a := ⟨_, rfl⟩
    obtain ⟨b, hb⟩ : ∃ b, a - 1 = b := ⟨_, rfl⟩
    rw [ha, hb] at hLf
    have hL1 : 1 ≤ L := by rw [hLf]; exact (Nat.le_div_iff_mul_le (by omega)).2 (by omega)
    have hL2 : L ≤ 192 := by have := HF.out.2.1.2; rw [HF.out.2.1.1, HN.out.1, ha, hb, ← hLf] at this; exact this
    have w1 : IntKind.i64.wrap ((n : Int) + (r : Int)) = (a : Int) := by rw [IntKind.wrap_i64]; first | omega | (unfold wrap64; omega)
    have w2 : IntKind.i64.wrap ((a : Int) - 1) = (b : Int) := by rw [IntKind.wrap_i64]; first | omega | (unfold wrap64; omega)
    have w3 : IntKind.i64.wrap ((b : Int).tdiv (r : Int)) = (L : Int) := by
      rw [Int.tdiv_eq_ediv_of_nonneg (by omega), ← Int.natCast_ediv, ← hLf, IntKind.wrap_i64]; first | omega | (unfold wrap64; omega)
    have W1 := Lib.hid (And.intro w1 (And.intro w2 w3))
    have HA := Lib.hid (And.intro hL1 hL2)
    clear w1 w2 w3 ha hb hLf hL1 hL2
    go_upto_region 9 with (fail)
    refine wp_region_hoist [(0, true), (1, true), (2, true), (3, true), (4, true), (5, true), (6, true), (7, true), (8, true), (9, true), (10, true)] (fun w' => w'.cell? ⟨t, 0, none⟩ = some (.slice Ar L cr)) (by kernel_rfl) (by kernel_rfl) ?_
    apply wpH_readL _ rfl rfl rfl
    · intro w' hw'; clear hw'; go_simp; exact ⟨rfl, rfl⟩
    simp only [List.set_cons_zero, List.set_cons_succ]
    apply wpH_readL _ rfl rfl rfl
    · intro w' hw'; go_simp; exact ⟨rfl, rfl⟩
    simp only [List.set_cons_zero, List.set_cons_succ]
    apply wpH_readL _ rfl rfl rfl
    · intro w' hw'; clear hw'; go_simp; exact ⟨rfl, rfl⟩
    simp only [List.set_cons_zero, List.set_cons_succ]
    apply wpH_readL _ rfl rfl rfl
    · intro w' hw'; clear hw'; go_simp; exact ⟨rfl, rfl⟩
    simp only [List.set_cons_zero, List.set_cons_succ]
    apply wpH_readL _ rfl rfl rfl
    · intro w' hw'; clear hw'; go_simp; exact ⟨rfl, rfl⟩
    simp only [List.set_cons_zero, List.set_cons_succ]
    apply wpH_readL _ rfl rfl rfl
    · intro w' hw'; clear hw'; go_simp; exact ⟨rfl, rfl⟩
    simp only [List.set_cons_zero, List.set_cons_succ]
    rw [W1.out.1]
    apply wpH_readL _ rfl rfl rfl
    · intro w' hw'; clear hw'; go_simp; exact ⟨rfl, rfl⟩
    simp only [List.set_cons_zero, List.set_cons_succ]
    rw [W1.out.2.1]
    apply wpH_readL _ rfl rfl rfl
    · intro w' hw'; clear hw'; go_simp; exact ⟨rfl, rfl⟩
    simp only [List.set_cons_zero, List.set_cons_succ]
    apply wpH_readL (.int .i64 (IntKind.i64.wrap ((b : Int).tdiv (r : Int)))) rfl rfl rfl
    · intro w' hw'; clear hw'; go_simp; try (exact ⟨rfl, rfl⟩)
    simp only [List.set_cons_zero, List.set_cons_succ]
    rw [W1.out.2.2]
    have hL1 := HA.out.1
    apply wpH_readL (.int .i64 (L : Int)) rfl rfl rfl
    · intro w' hw'; clear hw'; go_simp; rw [show (if (1 : Int) < (L : Int) then (L : Int) else 1) = (L : Int) by split <;> omega]; exact ⟨rfl, rfl⟩
    simp only [List.set_cons_zero, List.set_cons_succ]
    apply wpH_readL (.bool false) rfl rfl rfl
    · intro w' hw'; clear hw'; go_simp; exact ⟨rfl, rfl⟩
    simp only [List.set_cons_zero, List.set_cons_succ]
    refine wpH_end u0 ?_
    go_wp2_with (fail)
    obtain ⟨e1, e3, e4, hRw⟩ := HE.out
    clear u0 HE hL1
    go_loopw [10, 11, 12, 13] (fun lf i _ _ wr => ∃ (j : Nat), i = .int .i64 (j : Int) ∧ j ≤ L ∧ lf = .int .i64 ((n - j * r : Nat) : Int) ∧ Hid (wr.heap[s]? = some (.cells #[.int .i64 v, .int .i64 ((r : Int) + 15), .int .u32 st] 52) ∧ wr.heap[t]? = some (.cells #[.slice Ar L cr, .slice Al N cl] 61) ∧ Below s w wr ∧ Kd.R kRow 25 wr (w3.alloc (.cells (q.cs Ap cp Ac cc) 69)).heap.size (fun _ => True) (.slice Ar L cr) (rowsF crcT (frF v r st q))))
      (fun _ i _ _ _ => L - (intV i).toNat)
    case atStart => exact ⟨0, rfl, Nat.zero_le _, by simp, Lib.hid ⟨e1, e3, e4.drew, hRw⟩⟩
    case round =>
      clear e1 e3 e4 hRw
      obtain ⟨j, rfl, hj, rfl, HJ⟩ := hrel
      obtain ⟨e1, e3, e4, hRw⟩ := HJ.out
      have u0 := cell_at (j := 0) e3 rfl
      by_cases hlt : j < L
      · obtain ⟨Ar', cr', e0, hcr, hCr⟩ := Kd.R_reads hRw
        rw [HF.out.1] at e0 hCr
        obtain ⟨rfl, -, rfl⟩ : Ar = Ar' ∧ L = L ∧ cr = cr' := by simpa using e0
        obtain ⟨ad, x, Ax, cx, rfl, hx, hxc⟩ := atRow hCr j hlt
        have hrl := row_len (chkS_ok HR.out.1).1 HQ.out.2.1 HF.out.2.2 hrr hx
        rw [HN.out.1] at hrl
        have hc1 := cell_at (j := 1) e1 rfl
        have hln := left_next n r j
        obtain ⟨a, ha⟩ : ∃ a, n - j * r = a := ⟨_, rfl⟩
        obtain ⟨p, hp⟩ : ∃ p, min a r = p := ⟨_, rfl⟩
        have ha192 : a ≤ 192 := by rw [← ha]; exact Nat.le_trans (Nat.sub_le _ _) hlen.2
        rw [ha, hp] at hrl hln
        rw [ha]
        have HP := Lib.hid (And.intro hp (And.intro hrl (And.intro hln e0)))
        clear hp hrl hln e0 ha e1 e3 e4 hRw hCr hcr hx
        go_upto_region 16 with (fail)
        rw [show (if r < a then (r : Int) else (a : Int)) = (p : Int) by have := HP.out.1; split <;> omega]
        go_upto_region 17 with (fail)
        go_upto_region 18 with (fail)
        obtain ⟨y, hy⟩ : ∃ y, x.length = y := ⟨_, rfl⟩
        obtain ⟨bb, hbb⟩ : ∃ bb, p + 12 = bb := ⟨_, rfl⟩
        obtain ⟨a2, ha2⟩ : ∃ a2, a - p = a2 := ⟨_, rfl⟩
        rw [hy] at hxc
        have hb254 : bb ≤ 254 := by have := HP.out.1; omega
        have hyb : y = bb + 3 := by have := HP.out.2.1.1; omega
        have hyr : y ≤ r + 15 := by have := HP.out.1; have := HP.out.2.1.1; omega
        rw [show wrap64 ((a : Int) - (p : Int)) = (a2 : Int) by have := HP.out.1; unfold wrap64; omega, show wrap64 ((p : Int) + 12) = (bb : Int) by unfold wrap64; omega]
        obtain ⟨d, hd⟩ : ∃ d, bb + 253 = d := ⟨_, rfl⟩
        obtain ⟨f, hf⟩ : ∃ f, bb + 1 = f := ⟨_, rfl⟩
        have W2 := Lib.hid (And.intro (show IntKind.i64.wrap ((bb : Int) + 253) = (d : Int) by rw [IntKind.wrap_i64]; first | omega | (unfold wrap64; omega))
          (And.intro (show IntKind.i64.wrap ((d : Int).tdiv 254) = 1 by rw [Int.tdiv_eq_ediv_of_nonneg (by omega), IntKind.wrap_i64]; first | omega | (unfold wrap64; omega))
          (And.intro (show IntKind.i64.wrap ((bb : Int) + 1) = (f : Int) by rw [IntKind.wrap_i64]; first | omega | (unfold wrap64; omega))
          (show IntKind.i64.wrap ((f : Int) + 2) = (y : Int) by rw [IntKind.wrap_i64]; first | omega | (unfold wrap64; omega)))))
        have HB := Lib.hid (And.intro hy (And.intro hbb (And.intro ha2 (And.intro hb254 hyb))))
        clear hy hbb ha2 hb254 hyb hd hf
        refine wp_region_hoist [(0, true), (1, true), (2, true), (3, true), (4, true), (5, true), (6, true), (7, true), (8, true), (9, true), (10, true), (11, true), (12, true), (13, true), (14, true), (15, true), (16, true), (17, true), (18, true), (19, true), (20, true), (21, true), (22, true), (23, true), (24, true)] (fun w' => w'.cell? ⟨t, 0, none⟩ = some (.slice (some ad) L cr) ∧ w'.cell? ⟨s, 1, none⟩ = some (.int .i64 ((r : Int) + 15)) ∧ w'.cell? (ad.add j) = some (.slice Ax y cx)) (by kernel_rfl) (by kernel_rfl) ?_
        apply wpH_readL _ rfl rfl rfl
        · intro w' hw'; clear hw'; go_simp; exact ⟨rfl, rfl⟩
        simp only [List.set_cons_zero, List.set_cons_succ]
        apply wpH_readL _ rfl rfl rfl
        · intro w' hw'; obtain ⟨h1, h2, h3⟩ := hw'; go_simp; exact ⟨rfl, rfl⟩
        simp only [List.set_cons_zero, List.set_cons_succ]
        apply wpH_readL _ rfl rfl rfl
        · intro w' hw'; clear hw'; go_simp; exact ⟨rfl, rfl⟩
        simp only [List.set_cons_zero, List.set_cons_succ]
        apply wpH_readL _ rfl rfl rfl
        · intro w' hw'; clear hw'; go_simp; exact ⟨rfl, rfl⟩
        simp only [List.set_cons_zero, List.set_cons_succ]
        apply wpH_readL _ rfl rfl rfl
        · intro w' hw'; obtain ⟨h1, h2, h3⟩ := hw'; go_simp; exact ⟨rfl, rfl⟩
        simp only [List.set_cons_zero, List.set_cons_succ]
        apply wpH_readL _ rfl rfl rfl
        · intro w' hw'; clear hw'; go_simp; exact ⟨rfl, rfl⟩
        simp only [List.set_cons_zero, List.set_cons_succ]
        apply wpH_readL _ rfl rfl rfl
        · intro w' hw'; clear hw'; go_simp; exact ⟨rfl, rfl⟩
        simp only [List.set_cons_zero, List.set_cons_succ]
        apply wpH_readL _ rfl rfl rfl
        · intro w' hw'; clear hw'; go_simp; exact ⟨rfl, rfl⟩
        simp only [List.set_cons_zero, List.set_cons_succ]

        apply wpH_readL (.int .i64 (IntKind.i64.wrap ((bb : Int) + 253))) rfl rfl rfl
        · intro w' hw'; clear hw'; go_simp; try (exact ⟨rfl, rfl⟩)
        simp only [List.set_cons_zero, List.set_cons_succ]
        rw [W2.out.1]
        apply wpH_readL (.int .i64 (IntKind.i64.wrap ((d : Int).tdiv 254))) rfl rfl rfl
        · intro w' hw'; clear hw'; go_simp; try (exact ⟨rfl, rfl⟩)
        simp only [List.set_cons_zero, List.set_cons_succ]
        rw [W2.out.2.1]
        apply wpH_readL (.int .i64 1) rfl rfl rfl
        · intro w' hw'; clear hw'; go_simp; try (exact ⟨rfl, rfl⟩)
        simp only [List.set_cons_zero, List.set_cons_succ]
        apply wpH_readL (.int .i64 (IntKind.i64.wrap ((bb : Int) + 1))) rfl rfl rfl
        · intro w' hw'; clear hw'; go_simp; try (exact ⟨rfl, rfl⟩)
        simp only [List.set_cons_zero, List.set_cons_succ]
        rw [W2.out.2.2.1]
        apply wpH_readL (.int .i64 (IntKind.i64.wrap ((f : Int) + 2))) rfl rfl rfl
        · intro w' hw'; clear hw'; go_simp; try (exact ⟨rfl, rfl⟩)
        simp only [List.set_cons_zero, List.set_cons_succ]
        rw [W2.out.2.2.2]
        apply wpH_readL (.bool false) rfl rfl rfl
        · intro w' hw'; clear hw'; go_simp; try (exact ⟨rfl, rfl⟩)
        simp only [List.set_cons_zero, List.set_cons_succ]
        apply wpH_readL _ rfl rfl rfl
        · intro w' hw'; clear hw'; go_simp; exact ⟨rfl, rfl⟩
        simp only [List.set_cons_zero, List.set_cons_succ]
        apply wpH_readL _ rfl rfl rfl
        · intro w' hw'; clear hw'; go_simp; exact ⟨rfl, rfl⟩
        simp only [List.set_cons_zero, List.set_cons_succ]
        apply wpH_readL _ rfl rfl rfl
        · intro w' hw'; obtain ⟨h1, h2, h3⟩ := hw'; go_simp; exact ⟨rfl, rfl⟩
        simp only [List.set_cons_zero, List.set_cons_succ]
        apply wpH_readL _ rfl rfl rfl
        · intro w' hw'; clear hw'; go_simp; exact ⟨rfl, rfl⟩
        simp only [List.set_cons_zero, List.set_cons_succ]
        apply wpH_readL _ rfl rfl rfl
        · intro w' hw'; clear hw'; go_simp; exact ⟨rfl, rfl⟩
        simp only [List.set_cons_zero, List.set_cons_succ]
        apply wpH_readL _ rfl rfl rfl
        · intro w' hw'; obtain ⟨h1, h2, h3⟩ := hw'; go_simp; exact ⟨rfl, rfl⟩
        simp only [List.set_cons_zero, List.set_cons_succ]
        apply wpH_readL _ rfl rfl rfl
        · intro w' hw'; clear hw'; go_simp; exact ⟨rfl, rfl⟩
        simp only [List.set_cons_zero, List.set_cons_succ]
        apply wpH_readL _ rfl rfl rfl
        · intro w' hw'; clear hw'; go_simp; exact ⟨rfl, rfl⟩
        simp only [List.set_cons_zero, List.set_cons_succ]
        apply wpH_readL _ rfl rfl rfl
        · intro w' hw'; obtain ⟨h1, h2, h3⟩ := hw'; go_simp; exact ⟨rfl, rfl⟩
        simp only [List.set_cons_zero, List.set_cons_succ]
        apply wpH_readL (.bool false) rfl rfl rfl
        · intro w' hw'; clear hw'; go_simp; rw [show decide ((r : Int) + 15 < (y : Int)) = false by simp; omega]; exact ⟨rfl, rfl⟩
        simp only [List.set_cons_zero, List.set_cons_succ]
        apply wpH_readL _ rfl rfl rfl
        · intro w' hw'; clear hw'; go_simp; exact ⟨rfl, rfl⟩
        simp only [List.set_cons_zero, List.set_cons_succ]
        refine wpH_end ⟨u0, hc1, hxc⟩ ?_
        go_wp2_with (fail)
        rw [show wrap64 ((j : Int) + 1) = ((j + 1 : Nat) : Int) by have := HA.out.2; unfold wrap64; omega]
        obtain ⟨e1, e3, e4, hRw⟩ := HJ.out
        refine ⟨⟨j + 1, rfl, hlt, ?_, Lib.hid ⟨e1, e3, e4.drew, hRw⟩⟩, by simp [intV]; omega⟩
        rw [← HB.out.2.2.1, HP.out.2.2.1]
      · obtain rfl : j = L := by omega
        have hz : n - j * r = 0 := by rw [HN.out.2.2]; exact parts_all n r hrr.1
        rw [hz]
        clear hz
        go_wp2_with (fail)
        refine (Ev.lives_calls wr).2.mono ?_
        rintro e w8 ⟨rfl, hb8⟩
        have e5 := e4.trans (hb8.mono (by have := (Array.getElem?_eq_some_iff.1 e3).1; omega))
        clear e1 e3 e4 hRw HJ hb8
        go_wp2_with (fail)
        exact bodyPost_ret (v := .bool true) (by simp [results, Tryz.results6, go_sem]) rfl ⟨rfl, by rw [HS.out]; exact e5⟩
  · rw [if_neg hk] at hL
    have hL0 : L = 0 := hL.symm
    subst hL0
    have HW := Lib.hid (And.intro z3 (And.intro z4 y4))
    have hkb : (chk q != 0) = true := by simpa using hk
    clear hL hRw z1 z2 z3 z4 hk
    generalize chk q = R at *
    go_wp2_with (fail)
    refine (Ev.lives_calls w6).2.mono ?_
    rintro e w7 ⟨rfl, hb7⟩
    have z3 := (hb7.block t (Array.getElem?_eq_some_iff.1 HW.out.1).1).trans HW.out.1
    have z4 := HW.out.2.1.trans (hb7.mono (by have := (Array.getElem?_eq_some_iff.1 HW.out.1).1; have := HW.out.2.2; omega))
    have u0 : w7.cell? ⟨t, 0, none⟩ = some (.slice Ar 0 cr) := cell_at z3 rfl
    clear z3 HW hb7
    go_wp2_with (fail)
    exact bodyPost_ret (v := .bool true) (by simp [results, Tryz.results6, go_sem]) rfl ⟨rfl, by rw [HS.out]; exact z4⟩
end Go.Proofs.YtgdlpgakhhebeaaGreatDoor
