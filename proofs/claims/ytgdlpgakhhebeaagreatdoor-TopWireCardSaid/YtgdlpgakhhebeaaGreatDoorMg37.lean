/- Part 37 of the proof of TopWire: Sfr. -/
import Derived.Test.YtgdlpgakhhebeaaGreatDoorMg24
import Derived.Test.YtgdlpgakhhebeaaGreatDoorMg36
set_option linter.unusedVariables false
set_option linter.unusedSimpArgs false
namespace Go.Proofs.YtgdlpgakhhebeaaGreatDoor
open Go.RowKit Go.Proofs.YtgdlpgakhhebeaaGreatDoorW.PrintWords Go.Proofs.YtgdlpgakhhebeaaGreatDoorW.PrintMore
attribute [local go_sem] Oper.semAt_some

theorem chkS_ok {v mtu : Int} (h : chkS v mtu = 0) : (v = 1 ∨ v = 2) ∧ 16 ≤ mtu ∧ mtu ≤ 257 := by
  unfold chkS at h
  split at h
  · omega
  · rename_i hv
    split at h
    · omega
    · exact ⟨Classical.not_not.1 hv, by omega, by omega⟩
theorem room_val (v mtu st : Int) (h : chkS v mtu = 0) : P.conf_Room.f 1 v mtu st = some (mtu - 15) := by
  have h2 := chkS_ok h
  unfold P.conf_Room.f
  rw [chkS_f, h]
  simp only [Option.bind_some, if_true]
  have hw : P.frame_Wire.f 1 = some 16 := by
    kernel_rfl
  unfold P.frame_Room.f
  rw [hw]
  simp only [Option.bind_some]
  rw [if_neg (by omega)]
  have e1 : wrap64 (mtu - 16) = mtu - 16 := by unfold wrap64; omega
  have e2 : wrap64 (mtu - 16 + 1) = mtu - 15 := by unfold wrap64; omega
  rw [e1, e2]
  unfold mn
  split <;> first | rfl | (simp; omega)
set_option maxRecDepth 100000 in
set_option maxHeartbeats 4000000 in
theorem sframes_bad (m : Ms) (v mtu st nx sn : Int) (cb g : Nat) (hv : v = 1 ∨ v = 2) (hk : chk m ≠ 0) (w : World) (hg : Snd w g cb v mtu st nx sn) (Ap : Option Addr) (cp : Nat) (Ac : Option Addr) (cc : Nat) (h : MsR w m Ap cp Ac cc) (hm : Fit m) :
    Calls Tryz.prog 42 #[.pointer (some ⟨g, 0, none⟩), mV m Ap cp Ac cc] w fun e w' => e = .returned (.tuple #[.slice none 0 0, .int .i64 (chk m)]) ∧ Below w.heap.size w w' := by
  have bA : Below w.heap.size w (w.alloc (.cells (m.cs Ap cp Ac cc) 69)) := (Below.refl _ w).alloc (Nat.le_refl _) _
  obtain ⟨bm, hbm⟩ : ∃ bm, w.heap.size = bm := ⟨_, rfl⟩
  obtain ⟨V, hV⟩ : ∃ V, w.alloc (.cells (m.cs Ap cp Ac cc) 69) = V := ⟨_, rfl⟩
  have v1 : V.heap[bm]? = some (.cells (m.cs Ap cp Ac cc) 69) := by rw [← hV, ← hbm]; exact World.alloc_heap_new w _
  rw [hV] at bA
  have v2 : V.heap[g]? = some (.cells #[.int .i64 v, .int .i64 mtu, .int .u32 st, .pointer (some ⟨cb, 0, none⟩), .int .u32 nx, .int .i64 sn] 146) := (bA.block g (Array.getElem?_eq_some_iff.1 hg).1).trans hg
  have hC0 : V.drew.heap[g]? = some (.cells #[.int .i64 v, .int .i64 mtu, .int .u32 st, .pointer (some ⟨cb, 0, none⟩), .int .u32 nx, .int .i64 sn] 146) ∧ V.drew.heap[bm]? = some (.cells (m.cs Ap cp Ac cc) 69) := ⟨v2, v1⟩
  have HE := Lib.hid (encode_bad m v hv hk V.drew Ap cp Ac cc ((h.below bA).below (Below.refl _ V).drew) hm)
  have HB := Lib.hid bA
  have HS := Lib.hid hbm
  have hne : (chk m != 0) = true := by simpa using hk
  generalize hR : chk m = R at *
  clear h hm bA v1 v2 hg hk hR
  unfold mV
  unfold Ms.cs at *
  go_enter Tryz.func42, Tryz.ntmps42
  go_wp2_with (fail)
  try rw [hV]
  try rw [hbm]
  clear hV hbm
  refine wp_region_hoist [(0, true), (1, true), (2, true), (3, true), (4, true), (5, true), (6, true), (7, false), (8, true), (9, true), (10, true), (11, true), (12, true)] (fun w' => w'.heap[g]? = some (.cells #[.int .i64 v, .int .i64 mtu, .int .u32 st, .pointer (some ⟨cb, 0, none⟩), .int .u32 nx, .int .i64 sn] 146) ∧ w'.heap[bm]? = some (.cells (Ms.cs m Ap cp Ac cc) 69)) (by kernel_rfl) (by kernel_rfl) ?_
  apply wpH_readL _ rfl rfl rfl
  · intro w' hw'; obtain ⟨h1, h2⟩ := hw'; have c0 : w'.cell? ⟨g, 0, none⟩ = some (.int .i64 v) := cell_at h1 rfl; have c1 : w'.cell? ⟨g, 1, none⟩ = some (.int .i64 mtu) := cell_at h1 rfl; have c2 : w'.cell? ⟨g, 2, none⟩ = some (.int .u32 st) := cell_at h1 rfl; have c3 : w'.cell? ⟨g, 3, none⟩ = some (.pointer (some ⟨cb, 0, none⟩)) := cell_at h1 rfl; have c4 : w'.cell? ⟨g, 4, none⟩ = some (.int .u32 nx) := cell_at h1 rfl; have c5 : w'.cell? ⟨g, 5, none⟩ = some (.int .i64 sn) := cell_at h1 rfl; have q0 : w'.cell? ⟨bm, 0, none⟩ = some (.int .i64 m.k) := cell_at h2 rfl; have q1 : w'.cell? ⟨bm, 1, none⟩ = some (.int .i64 m.n0) := cell_at h2 rfl; have q2 : w'.cell? ⟨bm, 2, none⟩ = some (.int .i64 m.n1) := cell_at h2 rfl; have q3 : w'.cell? ⟨bm, 3, none⟩ = some (.int .i64 m.n2) := cell_at h2 rfl; have q4 : w'.cell? ⟨bm, 4, none⟩ = some (.int .i64 m.n3) := cell_at h2 rfl; have q5 : w'.cell? ⟨bm, 5, none⟩ = some (.int .i64 m.n4) := cell_at h2 rfl; have q6 : w'.cell? ⟨bm, 6, none⟩ = some (.int .i64 m.n5) := cell_at h2 rfl; have q7 : w'.cell? ⟨bm, 7, none⟩ = some (.slice Ap m.path.length cp) := cell_at h2 rfl; have q8 : w'.cell? ⟨bm, 8, none⟩ = some (.slice Ac m.cells.length cc) := cell_at h2 rfl; have q9 : w'.cell? ⟨bm, 9, none⟩ = some (.string m.text) := cell_at h2 rfl; have q10 : w'.cell? ⟨bm, 10, none⟩ = some (.string m.tag) := cell_at h2 rfl; clear h1 h2; go_simp; exact ⟨rfl, rfl⟩
  simp only [List.set_cons_zero, List.set_cons_succ]
  apply wpH_readL _ rfl rfl rfl
  · intro w' hw'; obtain ⟨h1, h2⟩ := hw'; have c0 : w'.cell? ⟨g, 0, none⟩ = some (.int .i64 v) := cell_at h1 rfl; have c1 : w'.cell? ⟨g, 1, none⟩ = some (.int .i64 mtu) := cell_at h1 rfl; have c2 : w'.cell? ⟨g, 2, none⟩ = some (.int .u32 st) := cell_at h1 rfl; have c3 : w'.cell? ⟨g, 3, none⟩ = some (.pointer (some ⟨cb, 0, none⟩)) := cell_at h1 rfl; have c4 : w'.cell? ⟨g, 4, none⟩ = some (.int .u32 nx) := cell_at h1 rfl; have c5 : w'.cell? ⟨g, 5, none⟩ = some (.int .i64 sn) := cell_at h1 rfl; have q0 : w'.cell? ⟨bm, 0, none⟩ = some (.int .i64 m.k) := cell_at h2 rfl; have q1 : w'.cell? ⟨bm, 1, none⟩ = some (.int .i64 m.n0) := cell_at h2 rfl; have q2 : w'.cell? ⟨bm, 2, none⟩ = some (.int .i64 m.n1) := cell_at h2 rfl; have q3 : w'.cell? ⟨bm, 3, none⟩ = some (.int .i64 m.n2) := cell_at h2 rfl; have q4 : w'.cell? ⟨bm, 4, none⟩ = some (.int .i64 m.n3) := cell_at h2 rfl; have q5 : w'.cell? ⟨bm, 5, none⟩ = some (.int .i64 m.n4) := cell_at h2 rfl; have q6 : w'.cell? ⟨bm, 6, none⟩ = some (.int .i64 m.n5) := cell_at h2 rfl; have q7 : w'.cell? ⟨bm, 7, none⟩ = some (.slice Ap m.path.length cp) := cell_at h2 rfl; have q8 : w'.cell? ⟨bm, 8, none⟩ = some (.slice Ac m.cells.length cc) := cell_at h2 rfl; have q9 : w'.cell? ⟨bm, 9, none⟩ = some (.string m.text) := cell_at h2 rfl; have q10 : w'.cell? ⟨bm, 10, none⟩ = some (.string m.tag) := cell_at h2 rfl; clear h1 h2; go_simp; exact ⟨rfl, rfl⟩
  simp only [List.set_cons_zero, List.set_cons_succ]
  apply wpH_readL _ rfl rfl rfl
  · intro w' hw'; obtain ⟨h1, h2⟩ := hw'; have c0 : w'.cell? ⟨g, 0, none⟩ = some (.int .i64 v) := cell_at h1 rfl; have c1 : w'.cell? ⟨g, 1, none⟩ = some (.int .i64 mtu) := cell_at h1 rfl; have c2 : w'.cell? ⟨g, 2, none⟩ = some (.int .u32 st) := cell_at h1 rfl; have c3 : w'.cell? ⟨g, 3, none⟩ = some (.pointer (some ⟨cb, 0, none⟩)) := cell_at h1 rfl; have c4 : w'.cell? ⟨g, 4, none⟩ = some (.int .u32 nx) := cell_at h1 rfl; have c5 : w'.cell? ⟨g, 5, none⟩ = some (.int .i64 sn) := cell_at h1 rfl; have q0 : w'.cell? ⟨bm, 0, none⟩ = some (.int .i64 m.k) := cell_at h2 rfl; have q1 : w'.cell? ⟨bm, 1, none⟩ = some (.int .i64 m.n0) := cell_at h2 rfl; have q2 : w'.cell? ⟨bm, 2, none⟩ = some (.int .i64 m.n1) := cell_at h2 rfl; have q3 : w'.cell? ⟨bm, 3, none⟩ = some (.int .i64 m.n2) := cell_at h2 rfl; have q4 : w'.cell? ⟨bm, 4, none⟩ = some (.int .i64 m.n3) := cell_at h2 rfl; have q5 : w'.cell? ⟨bm, 5, none⟩ = some (.int .i64 m.n4) := cell_at h2 rfl; have q6 : w'.cell? ⟨bm, 6, none⟩ = some (.int .i64 m.n5) := cell_at h2 rfl; have q7 : w'.cell? ⟨bm, 7, none⟩ = some (.slice Ap m.path.length cp) := cell_at h2 rfl; have q8 : w'.cell? ⟨bm, 8, none⟩ = some (.slice Ac m.cells.length cc) := cell_at h2 rfl; have q9 : w'.cell? ⟨bm, 9, none⟩ = some (.string m.text) := cell_at h2 rfl; have q10 : w'.cell? ⟨bm, 10, none⟩ = some (.string m.tag) := cell_at h2 rfl; clear h1 h2; go_simp; exact ⟨rfl, rfl⟩
  simp only [List.set_cons_zero, List.set_cons_succ]
  apply wpH_readL _ rfl rfl rfl
  · intro w' hw'; obtain ⟨h1, h2⟩ := hw'; have c0 : w'.cell? ⟨g, 0, none⟩ = some (.int .i64 v) := cell_at h1 rfl; have c1 : w'.cell? ⟨g, 1, none⟩ = some (.int .i64 mtu) := cell_at h1 rfl; have c2 : w'.cell? ⟨g, 2, none⟩ = some (.int .u32 st) := cell_at h1 rfl; have c3 : w'.cell? ⟨g, 3, none⟩ = some (.pointer (some ⟨cb, 0, none⟩)) := cell_at h1 rfl; have c4 : w'.cell? ⟨g, 4, none⟩ = some (.int .u32 nx) := cell_at h1 rfl; have c5 : w'.cell? ⟨g, 5, none⟩ = some (.int .i64 sn) := cell_at h1 rfl; have q0 : w'.cell? ⟨bm, 0, none⟩ = some (.int .i64 m.k) := cell_at h2 rfl; have q1 : w'.cell? ⟨bm, 1, none⟩ = some (.int .i64 m.n0) := cell_at h2 rfl; have q2 : w'.cell? ⟨bm, 2, none⟩ = some (.int .i64 m.n1) := cell_at h2 rfl; have q3 : w'.cell? ⟨bm, 3, none⟩ = some (.int .i64 m.n2) := cell_at h2 rfl; have q4 : w'.cell? ⟨bm, 4, none⟩ = some (.int .i64 m.n3) := cell_at h2 rfl; have q5 : w'.cell? ⟨bm, 5, none⟩ = some (.int .i64 m.n4) := cell_at h2 rfl; have q6 : w'.cell? ⟨bm, 6, none⟩ = some (.int .i64 m.n5) := cell_at h2 rfl; have q7 : w'.cell? ⟨bm, 7, none⟩ = some (.slice Ap m.path.length cp) := cell_at h2 rfl; have q8 : w'.cell? ⟨bm, 8, none⟩ = some (.slice Ac m.cells.length cc) := cell_at h2 rfl; have q9 : w'.cell? ⟨bm, 9, none⟩ = some (.string m.text) := cell_at h2 rfl; have q10 : w'.cell? ⟨bm, 10, none⟩ = some (.string m.tag) := cell_at h2 rfl; clear h1 h2; go_simp; exact ⟨rfl, rfl⟩
  simp only [List.set_cons_zero, List.set_cons_succ]
  apply wpH_readL _ rfl rfl rfl
  · intro w' hw'; obtain ⟨h1, h2⟩ := hw'; have c0 : w'.cell? ⟨g, 0, none⟩ = some (.int .i64 v) := cell_at h1 rfl; have c1 : w'.cell? ⟨g, 1, none⟩ = some (.int .i64 mtu) := cell_at h1 rfl; have c2 : w'.cell? ⟨g, 2, none⟩ = some (.int .u32 st) := cell_at h1 rfl; have c3 : w'.cell? ⟨g, 3, none⟩ = some (.pointer (some ⟨cb, 0, none⟩)) := cell_at h1 rfl; have c4 : w'.cell? ⟨g, 4, none⟩ = some (.int .u32 nx) := cell_at h1 rfl; have c5 : w'.cell? ⟨g, 5, none⟩ = some (.int .i64 sn) := cell_at h1 rfl; have q0 : w'.cell? ⟨bm, 0, none⟩ = some (.int .i64 m.k) := cell_at h2 rfl; have q1 : w'.cell? ⟨bm, 1, none⟩ = some (.int .i64 m.n0) := cell_at h2 rfl; have q2 : w'.cell? ⟨bm, 2, none⟩ = some (.int .i64 m.n1) := cell_at h2 rfl; have q3 : w'.cell? ⟨bm, 3, none⟩ = some (.int .i64 m.n2) := cell_at h2 rfl; have q4 : w'.cell? ⟨bm, 4, none⟩ = some (.int .i64 m.n3) := cell_at h2 rfl; have q5 : w'.cell? ⟨bm, 5, none⟩ = some (.int .i64 m.n4) := cell_at h2 rfl; have q6 : w'.cell? ⟨bm, 6, none⟩ = some (.int .i64 m.n5) := cell_at h2 rfl; have q7 : w'.cell? ⟨bm, 7, none⟩ = some (.slice Ap m.path.length cp) := cell_at h2 rfl; have q8 : w'.cell? ⟨bm, 8, none⟩ = some (.slice Ac m.cells.length cc) := cell_at h2 rfl; have q9 : w'.cell? ⟨bm, 9, none⟩ = some (.string m.text) := cell_at h2 rfl; have q10 : w'.cell? ⟨bm, 10, none⟩ = some (.string m.tag) := cell_at h2 rfl; clear h1 h2; go_simp; exact ⟨rfl, rfl⟩
  simp only [List.set_cons_zero, List.set_cons_succ]
  apply wpH_readL _ rfl rfl rfl
  · intro w' hw'; obtain ⟨h1, h2⟩ := hw'; have c0 : w'.cell? ⟨g, 0, none⟩ = some (.int .i64 v) := cell_at h1 rfl; have c1 : w'.cell? ⟨g, 1, none⟩ = some (.int .i64 mtu) := cell_at h1 rfl; have c2 : w'.cell? ⟨g, 2, none⟩ = some (.int .u32 st) := cell_at h1 rfl; have c3 : w'.cell? ⟨g, 3, none⟩ = some (.pointer (some ⟨cb, 0, none⟩)) := cell_at h1 rfl; have c4 : w'.cell? ⟨g, 4, none⟩ = some (.int .u32 nx) := cell_at h1 rfl; have c5 : w'.cell? ⟨g, 5, none⟩ = some (.int .i64 sn) := cell_at h1 rfl; have q0 : w'.cell? ⟨bm, 0, none⟩ = some (.int .i64 m.k) := cell_at h2 rfl; have q1 : w'.cell? ⟨bm, 1, none⟩ = some (.int .i64 m.n0) := cell_at h2 rfl; have q2 : w'.cell? ⟨bm, 2, none⟩ = some (.int .i64 m.n1) := cell_at h2 rfl; have q3 : w'.cell? ⟨bm, 3, none⟩ = some (.int .i64 m.n2) := cell_at h2 rfl; have q4 : w'.cell? ⟨bm, 4, none⟩ = some (.int .i64 m.n3) := cell_at h2 rfl; have q5 : w'.cell? ⟨bm, 5, none⟩ = some (.int .i64 m.n4) := cell_at h2 rfl; have q6 : w'.cell? ⟨bm, 6, none⟩ = some (.int .i64 m.n5) := cell_at h2 rfl; have q7 : w'.cell? ⟨bm, 7, none⟩ = some (.slice Ap m.path.length cp) := cell_at h2 rfl; have q8 : w'.cell? ⟨bm, 8, none⟩ = some (.slice Ac m.cells.length cc) := cell_at h2 rfl; have q9 : w'.cell? ⟨bm, 9, none⟩ = some (.string m.text) := cell_at h2 rfl; have q10 : w'.cell? ⟨bm, 10, none⟩ = some (.string m.tag) := cell_at h2 rfl; clear h1 h2; go_simp; exact ⟨rfl, rfl⟩
  simp only [List.set_cons_zero, List.set_cons_succ]
  apply wpH_readL _ rfl rfl rfl
  · intro w' hw'; obtain ⟨h1, h2⟩ := hw'; have c0 : w'.cell? ⟨g, 0, none⟩ = some (.int .i64 v) := cell_at h1 rfl; have c1 : w'.cell? ⟨g, 1, none⟩ = some (.int .i64 mtu) := cell_at h1 rfl; have c2 : w'.cell? ⟨g, 2, none⟩ = some (.int .u32 st) := cell_at h1 rfl; have c3 : w'.cell? ⟨g, 3, none⟩ = some (.pointer (some ⟨cb, 0, none⟩)) := cell_at h1 rfl; have c4 : w'.cell? ⟨g, 4, none⟩ = some (.int .u32 nx) := cell_at h1 rfl; have c5 : w'.cell? ⟨g, 5, none⟩ = some (.int .i64 sn) := cell_at h1 rfl; have q0 : w'.cell? ⟨bm, 0, none⟩ = some (.int .i64 m.k) := cell_at h2 rfl; have q1 : w'.cell? ⟨bm, 1, none⟩ = some (.int .i64 m.n0) := cell_at h2 rfl; have q2 : w'.cell? ⟨bm, 2, none⟩ = some (.int .i64 m.n1) := cell_at h2 rfl; have q3 : w'.cell? ⟨bm, 3, none⟩ = some (.int .i64 m.n2) := cell_at h2 rfl; have q4 : w'.cell? ⟨bm, 4, none⟩ = some (.int .i64 m.n3) := cell_at h2 rfl; have q5 : w'.cell? ⟨bm, 5, none⟩ = some (.int .i64 m.n4) := cell_at h2 rfl; have q6 : w'.cell? ⟨bm, 6, none⟩ = some (.int .i64 m.n5) := cell_at h2 rfl; have q7 : w'.cell? ⟨bm, 7, none⟩ = some (.slice Ap m.path.length cp) := cell_at h2 rfl; have q8 : w'.cell? ⟨bm, 8, none⟩ = some (.slice Ac m.cells.length cc) := cell_at h2 rfl; have q9 : w'.cell? ⟨bm, 9, none⟩ = some (.string m.text) := cell_at h2 rfl; have q10 : w'.cell? ⟨bm, 10, none⟩ = some (.string m.tag) := cell_at h2 rfl; clear h1 h2; go_simp; exact ⟨rfl, rfl⟩
  simp only [List.set_cons_zero, List.set_cons_succ]
  apply wpH_callL (f := 80) (args := #[.agg (Ms.cs m Ap cp Ac cc), .int .i64 v]) (fun _ => trivial) rfl rfl rfl hC0 rfl (fun c h => by cases h) (by kernel_rfl)
  refine callsIn_wide.2 (HE.out.mono ?_)
  rintro e w3 ⟨rfl, hb⟩
  refine ⟨_, rfl, ?_⟩
  simp only [List.set_cons_zero, List.set_cons_succ]
  have hC3 : w3.heap[g]? = some (.cells #[.int .i64 v, .int .i64 mtu, .int .u32 st, .pointer (some ⟨cb, 0, none⟩), .int .u32 nx, .int .i64 sn] 146) ∧ w3.heap[bm]? = some (.cells (Ms.cs m Ap cp Ac cc) 69) := ⟨(hb.block g (Array.getElem?_eq_some_iff.1 hC0.1).1).trans hC0.1, (hb.block bm (Array.getElem?_eq_some_iff.1 hC0.2).1).trans hC0.2⟩
  have HF := Lib.hid (HB.out.trans (((Below.refl _ V).drew.trans hb).mono HB.out.size))
  clear hb HE
  apply wpH_readL _ rfl rfl rfl
  · intro w' hw'; obtain ⟨h1, h2⟩ := hw'; have c0 : w'.cell? ⟨g, 0, none⟩ = some (.int .i64 v) := cell_at h1 rfl; have c1 : w'.cell? ⟨g, 1, none⟩ = some (.int .i64 mtu) := cell_at h1 rfl; have c2 : w'.cell? ⟨g, 2, none⟩ = some (.int .u32 st) := cell_at h1 rfl; have c3 : w'.cell? ⟨g, 3, none⟩ = some (.pointer (some ⟨cb, 0, none⟩)) := cell_at h1 rfl; have c4 : w'.cell? ⟨g, 4, none⟩ = some (.int .u32 nx) := cell_at h1 rfl; have c5 : w'.cell? ⟨g, 5, none⟩ = some (.int .i64 sn) := cell_at h1 rfl; have q0 : w'.cell? ⟨bm, 0, none⟩ = some (.int .i64 m.k) := cell_at h2 rfl; clear h1 h2; go_simp; exact ⟨rfl, rfl⟩
  simp only [List.set_cons_zero, List.set_cons_succ]
  apply wpH_readL _ rfl rfl rfl
  · intro w' hw'; obtain ⟨h1, h2⟩ := hw'; have c0 : w'.cell? ⟨g, 0, none⟩ = some (.int .i64 v) := cell_at h1 rfl; have c1 : w'.cell? ⟨g, 1, none⟩ = some (.int .i64 mtu) := cell_at h1 rfl; have c2 : w'.cell? ⟨g, 2, none⟩ = some (.int .u32 st) := cell_at h1 rfl; have c3 : w'.cell? ⟨g, 3, none⟩ = some (.pointer (some ⟨cb, 0, none⟩)) := cell_at h1 rfl; have c4 : w'.cell? ⟨g, 4, none⟩ = some (.int .u32 nx) := cell_at h1 rfl; have c5 : w'.cell? ⟨g, 5, none⟩ = some (.int .i64 sn) := cell_at h1 rfl; have q0 : w'.cell? ⟨bm, 0, none⟩ = some (.int .i64 m.k) := cell_at h2 rfl; clear h1 h2; go_simp; exact ⟨rfl, rfl⟩
  simp only [List.set_cons_zero, List.set_cons_succ]
  apply wpH_readL _ rfl rfl rfl
  · intro w' hw'; obtain ⟨h1, h2⟩ := hw'; have c0 : w'.cell? ⟨g, 0, none⟩ = some (.int .i64 v) := cell_at h1 rfl; have c1 : w'.cell? ⟨g, 1, none⟩ = some (.int .i64 mtu) := cell_at h1 rfl; have c2 : w'.cell? ⟨g, 2, none⟩ = some (.int .u32 st) := cell_at h1 rfl; have c3 : w'.cell? ⟨g, 3, none⟩ = some (.pointer (some ⟨cb, 0, none⟩)) := cell_at h1 rfl; have c4 : w'.cell? ⟨g, 4, none⟩ = some (.int .u32 nx) := cell_at h1 rfl; have c5 : w'.cell? ⟨g, 5, none⟩ = some (.int .i64 sn) := cell_at h1 rfl; have q0 : w'.cell? ⟨bm, 0, none⟩ = some (.int .i64 m.k) := cell_at h2 rfl; clear h1 h2; go_simp; exact ⟨rfl, rfl⟩
  simp only [List.set_cons_zero, List.set_cons_succ]
  apply wpH_readL _ rfl rfl rfl
  · intro w' hw'; obtain ⟨h1, h2⟩ := hw'; have c0 : w'.cell? ⟨g, 0, none⟩ = some (.int .i64 v) := cell_at h1 rfl; have c1 : w'.cell? ⟨g, 1, none⟩ = some (.int .i64 mtu) := cell_at h1 rfl; have c2 : w'.cell? ⟨g, 2, none⟩ = some (.int .u32 st) := cell_at h1 rfl; have c3 : w'.cell? ⟨g, 3, none⟩ = some (.pointer (some ⟨cb, 0, none⟩)) := cell_at h1 rfl; have c4 : w'.cell? ⟨g, 4, none⟩ = some (.int .u32 nx) := cell_at h1 rfl; have c5 : w'.cell? ⟨g, 5, none⟩ = some (.int .i64 sn) := cell_at h1 rfl; have q0 : w'.cell? ⟨bm, 0, none⟩ = some (.int .i64 m.k) := cell_at h2 rfl; clear h1 h2; go_simp; exact ⟨rfl, rfl⟩
  simp only [List.set_cons_zero, List.set_cons_succ]
  apply wpH_readL _ rfl rfl rfl
  · intro w' hw'; obtain ⟨h1, h2⟩ := hw'; have c0 : w'.cell? ⟨g, 0, none⟩ = some (.int .i64 v) := cell_at h1 rfl; have c1 : w'.cell? ⟨g, 1, none⟩ = some (.int .i64 mtu) := cell_at h1 rfl; have c2 : w'.cell? ⟨g, 2, none⟩ = some (.int .u32 st) := cell_at h1 rfl; have c3 : w'.cell? ⟨g, 3, none⟩ = some (.pointer (some ⟨cb, 0, none⟩)) := cell_at h1 rfl; have c4 : w'.cell? ⟨g, 4, none⟩ = some (.int .u32 nx) := cell_at h1 rfl; have c5 : w'.cell? ⟨g, 5, none⟩ = some (.int .i64 sn) := cell_at h1 rfl; have q0 : w'.cell? ⟨bm, 0, none⟩ = some (.int .i64 m.k) := cell_at h2 rfl; clear h1 h2; go_simp; exact ⟨rfl, rfl⟩
  simp only [List.set_cons_zero, List.set_cons_succ]
  refine wpH_end hC3 ?_
  clear hC0 hC3
  go_wp2_with (fail)
  exact bodyPost_ret (v := .tuple #[.slice none 0 0, .int .i64 R]) (by simp [results, Tryz.results42, go_sem]) rfl ⟨rfl, HF.out⟩
theorem kind_of {m : Ms} (hk : chk m = 0) : 1 ≤ m.k ∧ m.k ≤ 5 := by
  rcases flds_kind m.k with h | h
  · omega
  · exact absurd h (chk_zero hk).1
set_option maxRecDepth 100000 in
set_option maxHeartbeats 4000000 in
theorem sframes_call (m : Ms) (v mtu st nx sn : Int) (cb g : Nat) (hs : chkS v mtu = 0) (hk : chk m = 0) (w : World) (hg : Snd w g cb v mtu st nx sn) (Ap : Option Addr) (cp : Nat) (Ac : Option Addr) (cc : Nat) (h : MsR w m Ap cp Ac cc) (hm : Fit m) (r : Nat) (hr : mtu - 15 = (r : Int)) :
    Calls Tryz.prog 42 #[.pointer (some ⟨g, 0, none⟩), mV m Ap cp Ac cc] w fun e w' => ∃ vo : Value, e = .returned (.tuple #[vo, .int .i64 0]) ∧ Kd.R k133 133 w' w.heap.size (fun _ => True) vo (frs v m.k nx ((((encM m v).length + r - 1) / r : Nat) : Int) 0 (ptf (encM m v).length r (encM m v))) ∧ Snd w' g cb v mtu st ((nx + 1) % 4294967296) (wrap64 (sn + 1)) ∧ Keep (fun b => b ≠ g) w w' := by
  have bA : Below w.heap.size w (w.alloc (.cells (m.cs Ap cp Ac cc) 69)) := (Below.refl _ w).alloc (Nat.le_refl _) _
  obtain ⟨bm, hbm⟩ : ∃ bm, w.heap.size = bm := ⟨_, rfl⟩
  obtain ⟨V, hV⟩ : ∃ V, w.alloc (.cells (m.cs Ap cp Ac cc) 69) = V := ⟨_, rfl⟩
  have v1 : V.heap[bm]? = some (.cells (m.cs Ap cp Ac cc) 69) := by rw [← hV, ← hbm]; exact World.alloc_heap_new w _
  have hgl : g < w.heap.size := (Array.getElem?_eq_some_iff.1 hg).1
  rw [hV] at bA
  have v2 : V.heap[g]? = some (.cells #[.int .i64 v, .int .i64 mtu, .int .u32 st, .pointer (some ⟨cb, 0, none⟩), .int .u32 nx, .int .i64 sn] 146) := (bA.block g hgl).trans hg
  have hC0 : V.drew.heap[g]? = some (.cells #[.int .i64 v, .int .i64 mtu, .int .u32 st, .pointer (some ⟨cb, 0, none⟩), .int .u32 nx, .int .i64 sn] 146) ∧ V.drew.heap[bm]? = some (.cells (m.cs Ap cp Ac cc) 69) := ⟨v2, v1⟩
  have hv := (chkS_ok hs).1
  have hmt := (chkS_ok hs).2
  have hlen := encM_len m v hv hm hk
  have HE := Lib.hid (And.intro (encode_call m v hv hk V.drew Ap cp Ac cc ((h.below bA).below (Below.refl _ V).drew) hm) (And.intro hlen (And.intro (kind_of hk) (And.intro hmt (room_val v mtu st hs)))))
  have HB := Lib.hid (And.intro bA hgl)
  have HS := Lib.hid hbm
  have HR := Lib.hid (And.intro hr hv)
  have HGW := Lib.hid hgl
  have HO := Lib.hid (rfl : encM m v = encM m v)
  clear h hm bA v1 v2 hg hk hs hgl hmt hlen hr hv
  generalize hL : encM m v = L at *
  clear hL HO
  unfold mV
  unfold Ms.cs at *
  go_enter Tryz.func42, Tryz.ntmps42
  go_wp2_with (fail)
  try rw [hV]
  try rw [hbm]
  clear hV hbm
  refine wp_region_hoist [(0, true), (1, true), (2, true), (3, true), (4, true), (5, true), (6, true), (7, false), (8, true), (9, true), (10, true), (11, true), (12, true)] (fun w' => w'.heap[g]? = some (.cells #[.int .i64 v, .int .i64 mtu, .int .u32 st, .pointer (some ⟨cb, 0, none⟩), .int .u32 nx, .int .i64 sn] 146) ∧ w'.heap[bm]? = some (.cells (Ms.cs m Ap cp Ac cc) 69)) (by kernel_rfl) (by kernel_rfl) ?_
  apply wpH_readL _ rfl rfl rfl
  · intro w' hw'; obtain ⟨h1, h2⟩ := hw'; have c0 : w'.cell? ⟨g, 0, none⟩ = some (.int .i64 v) := cell_at h1 rfl; have c1 : w'.cell? ⟨g, 1, none⟩ = some (.int .i64 mtu) := cell_at h1 rfl; have c2 : w'.cell? ⟨g, 2, none⟩ = some (.int .u32 st) := cell_at h1 rfl; have c3 : w'.cell? ⟨g, 3, none⟩ = some (.pointer (some ⟨cb, 0, none⟩)) := cell_at h1 rfl; have c4 : w'.cell? ⟨g, 4, none⟩ = some (.int .u32 nx) := cell_at h1 rfl; have c5 : w'.cell? ⟨g, 5, none⟩ = some (.int .i64 sn) := cell_at h1 rfl; have q0 : w'.cell? ⟨bm, 0, none⟩ = some (.int .i64 m.k) := cell_at h2 rfl; have q1 : w'.cell? ⟨bm, 1, none⟩ = some (.int .i64 m.n0) := cell_at h2 rfl; have q2 : w'.cell? ⟨bm, 2, none⟩ = some (.int .i64 m.n1) := cell_at h2 rfl; have q3 : w'.cell? ⟨bm, 3, none⟩ = some (.int .i64 m.n2) := cell_at h2 rfl; have q4 : w'.cell? ⟨bm, 4, none⟩ = some (.int .i64 m.n3) := cell_at h2 rfl; have q5 : w'.cell? ⟨bm, 5, none⟩ = some (.int .i64 m.n4) := cell_at h2 rfl; have q6 : w'.cell? ⟨bm, 6, none⟩ = some (.int .i64 m.n5) := cell_at h2 rfl; have q7 : w'.cell? ⟨bm, 7, none⟩ = some (.slice Ap m.path.length cp) := cell_at h2 rfl; have q8 : w'.cell? ⟨bm, 8, none⟩ = some (.slice Ac m.cells.length cc) := cell_at h2 rfl; have q9 : w'.cell? ⟨bm, 9, none⟩ = some (.string m.text) := cell_at h2 rfl; have q10 : w'.cell? ⟨bm, 10, none⟩ = some (.string m.tag) := cell_at h2 rfl; clear h1 h2; go_simp; exact ⟨rfl, rfl⟩
  simp only [List.set_cons_zero, List.set_cons_succ]
  apply wpH_readL _ rfl rfl rfl
  · intro w' hw'; obtain ⟨h1, h2⟩ := hw'; have c0 : w'.cell? ⟨g, 0, none⟩ = some (.int .i64 v) := cell_at h1 rfl; have c1 : w'.cell? ⟨g, 1, none⟩ = some (.int .i64 mtu) := cell_at h1 rfl; have c2 : w'.cell? ⟨g, 2, none⟩ = some (.int .u32 st) := cell_at h1 rfl; have c3 : w'.cell? ⟨g, 3, none⟩ = some (.pointer (some ⟨cb, 0, none⟩)) := cell_at h1 rfl; have c4 : w'.cell? ⟨g, 4, none⟩ = some (.int .u32 nx) := cell_at h1 rfl; have c5 : w'.cell? ⟨g, 5, none⟩ = some (.int .i64 sn) := cell_at h1 rfl; have q0 : w'.cell? ⟨bm, 0, none⟩ = some (.int .i64 m.k) := cell_at h2 rfl; have q1 : w'.cell? ⟨bm, 1, none⟩ = some (.int .i64 m.n0) := cell_at h2 rfl; have q2 : w'.cell? ⟨bm, 2, none⟩ = some (.int .i64 m.n1) := cell_at h2 rfl; have q3 : w'.cell? ⟨bm, 3, none⟩ = some (.int .i64 m.n2) := cell_at h2 rfl; have q4 : w'.cell? ⟨bm, 4, none⟩ = some (.int .i64 m.n3) := cell_at h2 rfl; have q5 : w'.cell? ⟨bm, 5, none⟩ = some (.int .i64 m.n4) := cell_at h2 rfl; have q6 : w'.cell? ⟨bm, 6, none⟩ = some (.int .i64 m.n5) := cell_at h2 rfl; have q7 : w'.cell? ⟨bm, 7, none⟩ = some (.slice Ap m.path.length cp) := cell_at h2 rfl; have q8 : w'.cell? ⟨bm, 8, none⟩ = some (.slice Ac m.cells.length cc) := cell_at h2 rfl; have q9 : w'.cell? ⟨bm, 9, none⟩ = some (.string m.text) := cell_at h2 rfl; have q10 : w'.cell? ⟨bm, 10, none⟩ = some (.string m.tag) := cell_at h2 rfl; clear h1 h2; go_simp; exact ⟨rfl, rfl⟩
  simp only [List.set_cons_zero, List.set_cons_succ]
  apply wpH_readL _ rfl rfl rfl
  · intro w' hw'; obtain ⟨h1, h2⟩ := hw'; have c0 : w'.cell? ⟨g, 0, none⟩ = some (.int .i64 v) := cell_at h1 rfl; have c1 : w'.cell? ⟨g, 1, none⟩ = some (.int .i64 mtu) := cell_at h1 rfl; have c2 : w'.cell? ⟨g, 2, none⟩ = some (.int .u32 st) := cell_at h1 rfl; have c3 : w'.cell? ⟨g, 3, none⟩ = some (.pointer (some ⟨cb, 0, none⟩)) := cell_at h1 rfl; have c4 : w'.cell? ⟨g, 4, none⟩ = some (.int .u32 nx) := cell_at h1 rfl; have c5 : w'.cell? ⟨g, 5, none⟩ = some (.int .i64 sn) := cell_at h1 rfl; have q0 : w'.cell? ⟨bm, 0, none⟩ = some (.int .i64 m.k) := cell_at h2 rfl; have q1 : w'.cell? ⟨bm, 1, none⟩ = some (.int .i64 m.n0) := cell_at h2 rfl; have q2 : w'.cell? ⟨bm, 2, none⟩ = some (.int .i64 m.n1) := cell_at h2 rfl; have q3 : w'.cell? ⟨bm, 3, none⟩ = some (.int .i64 m.n2) := cell_at h2 rfl; have q4 : w'.cell? ⟨bm, 4, none⟩ = some (.int .i64 m.n3) := cell_at h2 rfl; have q5 : w'.cell? ⟨bm, 5, none⟩ = some (.int .i64 m.n4) := cell_at h2 rfl; have q6 : w'.cell? ⟨bm, 6, none⟩ = some (.int .i64 m.n5) := cell_at h2 rfl; have q7 : w'.cell? ⟨bm, 7, none⟩ = some (.slice Ap m.path.length cp) := cell_at h2 rfl; have q8 : w'.cell? ⟨bm, 8, none⟩ = some (.slice Ac m.cells.length cc) := cell_at h2 rfl; have q9 : w'.cell? ⟨bm, 9, none⟩ = some (.string m.text) := cell_at h2 rfl; have q10 : w'.cell? ⟨bm, 10, none⟩ = some (.string m.tag) := cell_at h2 rfl; clear h1 h2; go_simp; exact ⟨rfl, rfl⟩
  simp only [List.set_cons_zero, List.set_cons_succ]
  apply wpH_readL _ rfl rfl rfl
  · intro w' hw'; obtain ⟨h1, h2⟩ := hw'; have c0 : w'.cell? ⟨g, 0, none⟩ = some (.int .i64 v) := cell_at h1 rfl; have c1 : w'.cell? ⟨g, 1, none⟩ = some (.int .i64 mtu) := cell_at h1 rfl; have c2 : w'.cell? ⟨g, 2, none⟩ = some (.int .u32 st) := cell_at h1 rfl; have c3 : w'.cell? ⟨g, 3, none⟩ = some (.pointer (some ⟨cb, 0, none⟩)) := cell_at h1 rfl; have c4 : w'.cell? ⟨g, 4, none⟩ = some (.int .u32 nx) := cell_at h1 rfl; have c5 : w'.cell? ⟨g, 5, none⟩ = some (.int .i64 sn) := cell_at h1 rfl; have q0 : w'.cell? ⟨bm, 0, none⟩ = some (.int .i64 m.k) := cell_at h2 rfl; have q1 : w'.cell? ⟨bm, 1, none⟩ = some (.int .i64 m.n0) := cell_at h2 rfl; have q2 : w'.cell? ⟨bm, 2, none⟩ = some (.int .i64 m.n1) := cell_at h2 rfl; have q3 : w'.cell? ⟨bm, 3, none⟩ = some (.int .i64 m.n2) := cell_at h2 rfl; have q4 : w'.cell? ⟨bm, 4, none⟩ = some (.int .i64 m.n3) := cell_at h2 rfl; have q5 : w'.cell? ⟨bm, 5, none⟩ = some (.int .i64 m.n4) := cell_at h2 rfl; have q6 : w'.cell? ⟨bm, 6, none⟩ = some (.int .i64 m.n5) := cell_at h2 rfl; have q7 : w'.cell? ⟨bm, 7, none⟩ = some (.slice Ap m.path.length cp) := cell_at h2 rfl; have q8 : w'.cell? ⟨bm, 8, none⟩ = some (.slice Ac m.cells.length cc) := cell_at h2 rfl; have q9 : w'.cell? ⟨bm, 9, none⟩ = some (.string m.text) := cell_at h2 rfl; have q10 : w'.cell? ⟨bm, 10, none⟩ = some (.string m.tag) := cell_at h2 rfl; clear h1 h2; go_simp; exact ⟨rfl, rfl⟩
  simp only [List.set_cons_zero, List.set_cons_succ]
  apply wpH_readL _ rfl rfl rfl
  · intro w' hw'; obtain ⟨h1, h2⟩ := hw'; have c0 : w'.cell? ⟨g, 0, none⟩ = some (.int .i64 v) := cell_at h1 rfl; have c1 : w'.cell? ⟨g, 1, none⟩ = some (.int .i64 mtu) := cell_at h1 rfl; have c2 : w'.cell? ⟨g, 2, none⟩ = some (.int .u32 st) := cell_at h1 rfl; have c3 : w'.cell? ⟨g, 3, none⟩ = some (.pointer (some ⟨cb, 0, none⟩)) := cell_at h1 rfl; have c4 : w'.cell? ⟨g, 4, none⟩ = some (.int .u32 nx) := cell_at h1 rfl; have c5 : w'.cell? ⟨g, 5, none⟩ = some (.int .i64 sn) := cell_at h1 rfl; have q0 : w'.cell? ⟨bm, 0, none⟩ = some (.int .i64 m.k) := cell_at h2 rfl; have q1 : w'.cell? ⟨bm, 1, none⟩ = some (.int .i64 m.n0) := cell_at h2 rfl; have q2 : w'.cell? ⟨bm, 2, none⟩ = some (.int .i64 m.n1) := cell_at h2 rfl; have q3 : w'.cell? ⟨bm, 3, none⟩ = some (.int .i64 m.n2) := cell_at h2 rfl; have q4 : w'.cell? ⟨bm, 4, none⟩ = some (.int .i64 m.n3) := cell_at h2 rfl; have q5 : w'.cell? ⟨bm, 5, none⟩ = some (.int .i64 m.n4) := cell_at h2 rfl; have q6 : w'.cell? ⟨bm, 6, none⟩ = some (.int .i64 m.n5) := cell_at h2 rfl; have q7 : w'.cell? ⟨bm, 7, none⟩ = some (.slice Ap m.path.length cp) := cell_at h2 rfl; have q8 : w'.cell? ⟨bm, 8, none⟩ = some (.slice Ac m.cells.length cc) := cell_at h2 rfl; have q9 : w'.cell? ⟨bm, 9, none⟩ = some (.string m.text) := cell_at h2 rfl; have q10 : w'.cell? ⟨bm, 10, none⟩ = some (.string m.tag) := cell_at h2 rfl; clear h1 h2; go_simp; exact ⟨rfl, rfl⟩
  simp only [List.set_cons_zero, List.set_cons_succ]
  apply wpH_readL _ rfl rfl rfl
  · intro w' hw'; obtain ⟨h1, h2⟩ := hw'; have c0 : w'.cell? ⟨g, 0, none⟩ = some (.int .i64 v) := cell_at h1 rfl; have c1 : w'.cell? ⟨g, 1, none⟩ = some (.int .i64 mtu) := cell_at h1 rfl; have c2 : w'.cell? ⟨g, 2, none⟩ = some (.int .u32 st) := cell_at h1 rfl; have c3 : w'.cell? ⟨g, 3, none⟩ = some (.pointer (some ⟨cb, 0, none⟩)) := cell_at h1 rfl; have c4 : w'.cell? ⟨g, 4, none⟩ = some (.int .u32 nx) := cell_at h1 rfl; have c5 : w'.cell? ⟨g, 5, none⟩ = some (.int .i64 sn) := cell_at h1 rfl; have q0 : w'.cell? ⟨bm, 0, none⟩ = some (.int .i64 m.k) := cell_at h2 rfl; have q1 : w'.cell? ⟨bm, 1, none⟩ = some (.int .i64 m.n0) := cell_at h2 rfl; have q2 : w'.cell? ⟨bm, 2, none⟩ = some (.int .i64 m.n1) := cell_at h2 rfl; have q3 : w'.cell? ⟨bm, 3, none⟩ = some (.int .i64 m.n2) := cell_at h2 rfl; have q4 : w'.cell? ⟨bm, 4, none⟩ = some (.int .i64 m.n3) := cell_at h2 rfl; have q5 : w'.cell? ⟨bm, 5, none⟩ = some (.int .i64 m.n4) := cell_at h2 rfl; have q6 : w'.cell? ⟨bm, 6, none⟩ = some (.int .i64 m.n5) := cell_at h2 rfl; have q7 : w'.cell? ⟨bm, 7, none⟩ = some (.slice Ap m.path.length cp) := cell_at h2 rfl; have q8 : w'.cell? ⟨bm, 8, none⟩ = some (.slice Ac m.cells.length cc) := cell_at h2 rfl; have q9 : w'.cell? ⟨bm, 9, none⟩ = some (.string m.text) := cell_at h2 rfl; have q10 : w'.cell? ⟨bm, 10, none⟩ = some (.string m.tag) := cell_at h2 rfl; clear h1 h2; go_simp; exact ⟨rfl, rfl⟩
  simp only [List.set_cons_zero, List.set_cons_succ]
  apply wpH_readL _ rfl rfl rfl
  · intro w' hw'; obtain ⟨h1, h2⟩ := hw'; have c0 : w'.cell? ⟨g, 0, none⟩ = some (.int .i64 v) := cell_at h1 rfl; have c1 : w'.cell? ⟨g, 1, none⟩ = some (.int .i64 mtu) := cell_at h1 rfl; have c2 : w'.cell? ⟨g, 2, none⟩ = some (.int .u32 st) := cell_at h1 rfl; have c3 : w'.cell? ⟨g, 3, none⟩ = some (.pointer (some ⟨cb, 0, none⟩)) := cell_at h1 rfl; have c4 : w'.cell? ⟨g, 4, none⟩ = some (.int .u32 nx) := cell_at h1 rfl; have c5 : w'.cell? ⟨g, 5, none⟩ = some (.int .i64 sn) := cell_at h1 rfl; have q0 : w'.cell? ⟨bm, 0, none⟩ = some (.int .i64 m.k) := cell_at h2 rfl; have q1 : w'.cell? ⟨bm, 1, none⟩ = some (.int .i64 m.n0) := cell_at h2 rfl; have q2 : w'.cell? ⟨bm, 2, none⟩ = some (.int .i64 m.n1) := cell_at h2 rfl; have q3 : w'.cell? ⟨bm, 3, none⟩ = some (.int .i64 m.n2) := cell_at h2 rfl; have q4 : w'.cell? ⟨bm, 4, none⟩ = some (.int .i64 m.n3) := cell_at h2 rfl; have q5 : w'.cell? ⟨bm, 5, none⟩ = some (.int .i64 m.n4) := cell_at h2 rfl; have q6 : w'.cell? ⟨bm, 6, none⟩ = some (.int .i64 m.n5) := cell_at h2 rfl; have q7 : w'.cell? ⟨bm, 7, none⟩ = some (.slice Ap m.path.length cp) := cell_at h2 rfl; have q8 : w'.cell? ⟨bm, 8, none⟩ = some (.slice Ac m.cells.length cc) := cell_at h2 rfl; have q9 : w'.cell? ⟨bm, 9, none⟩ = some (.string m.text) := cell_at h2 rfl; have q10 : w'.cell? ⟨bm, 10, none⟩ = some (.string m.tag) := cell_at h2 rfl; clear h1 h2; go_simp; exact ⟨rfl, rfl⟩
  simp only [List.set_cons_zero, List.set_cons_succ]
  apply wpH_callL (f := 80) (args := #[.agg (Ms.cs m Ap cp Ac cc), .int .i64 v]) (fun _ => trivial) rfl rfl rfl hC0 rfl (fun c h => by cases h) (by kernel_rfl)
  refine callsIn_wide.2 (HE.out.1.mono ?_)
  rintro e w3 ⟨vb, rfl, hRb, hb⟩
  refine ⟨_, rfl, ?_⟩
  simp only [List.set_cons_zero, List.set_cons_succ]
  obtain ⟨A, c, rfl, hc, hC⟩ := Kd.R_reads hRb
  have hC3 : w3.heap[g]? = some (.cells #[.int .i64 v, .int .i64 mtu, .int .u32 st, .pointer (some ⟨cb, 0, none⟩), .int .u32 nx, .int .i64 sn] 146) ∧ w3.heap[bm]? = some (.cells (Ms.cs m Ap cp Ac cc) 69) := ⟨(hb.block g (Array.getElem?_eq_some_iff.1 hC0.1).1).trans hC0.1, (hb.block bm (Array.getElem?_eq_some_iff.1 hC0.2).1).trans hC0.2⟩
  have HF := Lib.hid (And.intro (HB.out.1.trans (((Below.refl _ V).drew.trans hb).mono HB.out.1.size)) hC)
  obtain ⟨nl, hnl⟩ : ∃ nl, L.length = nl := ⟨_, rfl⟩
  have HNL := Lib.hid hnl
  rw [hnl] at hc HF ⊢
  clear hb hRb hC hnl
  apply wpH_readL _ rfl rfl rfl
  · intro w' hw'; obtain ⟨h1, h2⟩ := hw'; have c0 : w'.cell? ⟨g, 0, none⟩ = some (.int .i64 v) := cell_at h1 rfl; have c1 : w'.cell? ⟨g, 1, none⟩ = some (.int .i64 mtu) := cell_at h1 rfl; have c2 : w'.cell? ⟨g, 2, none⟩ = some (.int .u32 st) := cell_at h1 rfl; have c3 : w'.cell? ⟨g, 3, none⟩ = some (.pointer (some ⟨cb, 0, none⟩)) := cell_at h1 rfl; have c4 : w'.cell? ⟨g, 4, none⟩ = some (.int .u32 nx) := cell_at h1 rfl; have c5 : w'.cell? ⟨g, 5, none⟩ = some (.int .i64 sn) := cell_at h1 rfl; have q0 : w'.cell? ⟨bm, 0, none⟩ = some (.int .i64 m.k) := cell_at h2 rfl; clear h1 h2; go_simp; exact ⟨rfl, rfl⟩
  simp only [List.set_cons_zero, List.set_cons_succ]
  apply wpH_readL _ rfl rfl rfl
  · intro w' hw'; obtain ⟨h1, h2⟩ := hw'; have c0 : w'.cell? ⟨g, 0, none⟩ = some (.int .i64 v) := cell_at h1 rfl; have c1 : w'.cell? ⟨g, 1, none⟩ = some (.int .i64 mtu) := cell_at h1 rfl; have c2 : w'.cell? ⟨g, 2, none⟩ = some (.int .u32 st) := cell_at h1 rfl; have c3 : w'.cell? ⟨g, 3, none⟩ = some (.pointer (some ⟨cb, 0, none⟩)) := cell_at h1 rfl; have c4 : w'.cell? ⟨g, 4, none⟩ = some (.int .u32 nx) := cell_at h1 rfl; have c5 : w'.cell? ⟨g, 5, none⟩ = some (.int .i64 sn) := cell_at h1 rfl; have q0 : w'.cell? ⟨bm, 0, none⟩ = some (.int .i64 m.k) := cell_at h2 rfl; clear h1 h2; go_simp; exact ⟨rfl, rfl⟩
  simp only [List.set_cons_zero, List.set_cons_succ]
  apply wpH_readL _ rfl rfl rfl
  · intro w' hw'; obtain ⟨h1, h2⟩ := hw'; have c0 : w'.cell? ⟨g, 0, none⟩ = some (.int .i64 v) := cell_at h1 rfl; have c1 : w'.cell? ⟨g, 1, none⟩ = some (.int .i64 mtu) := cell_at h1 rfl; have c2 : w'.cell? ⟨g, 2, none⟩ = some (.int .u32 st) := cell_at h1 rfl; have c3 : w'.cell? ⟨g, 3, none⟩ = some (.pointer (some ⟨cb, 0, none⟩)) := cell_at h1 rfl; have c4 : w'.cell? ⟨g, 4, none⟩ = some (.int .u32 nx) := cell_at h1 rfl; have c5 : w'.cell? ⟨g, 5, none⟩ = some (.int .i64 sn) := cell_at h1 rfl; have q0 : w'.cell? ⟨bm, 0, none⟩ = some (.int .i64 m.k) := cell_at h2 rfl; clear h1 h2; go_simp; exact ⟨rfl, rfl⟩
  simp only [List.set_cons_zero, List.set_cons_succ]
  apply wpH_readL _ rfl rfl rfl
  · intro w' hw'; obtain ⟨h1, h2⟩ := hw'; have c0 : w'.cell? ⟨g, 0, none⟩ = some (.int .i64 v) := cell_at h1 rfl; have c1 : w'.cell? ⟨g, 1, none⟩ = some (.int .i64 mtu) := cell_at h1 rfl; have c2 : w'.cell? ⟨g, 2, none⟩ = some (.int .u32 st) := cell_at h1 rfl; have c3 : w'.cell? ⟨g, 3, none⟩ = some (.pointer (some ⟨cb, 0, none⟩)) := cell_at h1 rfl; have c4 : w'.cell? ⟨g, 4, none⟩ = some (.int .u32 nx) := cell_at h1 rfl; have c5 : w'.cell? ⟨g, 5, none⟩ = some (.int .i64 sn) := cell_at h1 rfl; have q0 : w'.cell? ⟨bm, 0, none⟩ = some (.int .i64 m.k) := cell_at h2 rfl; clear h1 h2; go_simp; exact ⟨rfl, rfl⟩
  simp only [List.set_cons_zero, List.set_cons_succ]
  apply wpH_readL _ rfl rfl rfl
  · intro w' hw'; obtain ⟨h1, h2⟩ := hw'; have c0 : w'.cell? ⟨g, 0, none⟩ = some (.int .i64 v) := cell_at h1 rfl; have c1 : w'.cell? ⟨g, 1, none⟩ = some (.int .i64 mtu) := cell_at h1 rfl; have c2 : w'.cell? ⟨g, 2, none⟩ = some (.int .u32 st) := cell_at h1 rfl; have c3 : w'.cell? ⟨g, 3, none⟩ = some (.pointer (some ⟨cb, 0, none⟩)) := cell_at h1 rfl; have c4 : w'.cell? ⟨g, 4, none⟩ = some (.int .u32 nx) := cell_at h1 rfl; have c5 : w'.cell? ⟨g, 5, none⟩ = some (.int .i64 sn) := cell_at h1 rfl; have q0 : w'.cell? ⟨bm, 0, none⟩ = some (.int .i64 m.k) := cell_at h2 rfl; clear h1 h2; go_simp; exact ⟨rfl, rfl⟩
  simp only [List.set_cons_zero, List.set_cons_succ]
  refine wpH_end hC3 ?_
  clear hC0
  have HC3 := Lib.hid hC3
  clear hC3
  go_wp2_with (fail)
  have hC3 : w3.drew.heap[g]? = some (.cells #[.int .i64 v, .int .i64 mtu, .int .u32 st, .pointer (some ⟨cb, 0, none⟩), .int .u32 nx, .int .i64 sn] 146) ∧ w3.drew.heap[bm]? = some (.cells (Ms.cs m Ap cp Ac cc) 69) := HC3.out
  refine wp_region_hoist [(0, true), (1, true), (2, true), (3, true), (4, true), (5, true), (6, true), (7, true), (8, true), (9, true), (10, true), (11, true), (12, true), (13, true), (14, true), (15, true), (16, true), (17, true), (18, true), (19, false), (20, false), (21, true), (22, true), (23, true), (24, true), (25, true)] (fun w' => w'.heap[g]? = some (.cells #[.int .i64 v, .int .i64 mtu, .int .u32 st, .pointer (some ⟨cb, 0, none⟩), .int .u32 nx, .int .i64 sn] 146) ∧ w'.heap[bm]? = some (.cells (Ms.cs m Ap cp Ac cc) 69)) (by kernel_rfl) (by kernel_rfl) ?_
  apply wpH_readL _ rfl rfl rfl
  · intro w' hw'; obtain ⟨h1, h2⟩ := hw'; have c0 : w'.cell? ⟨g, 0, none⟩ = some (.int .i64 v) := cell_at h1 rfl; have c1 : w'.cell? ⟨g, 1, none⟩ = some (.int .i64 mtu) := cell_at h1 rfl; have c2 : w'.cell? ⟨g, 2, none⟩ = some (.int .u32 st) := cell_at h1 rfl; have c3 : w'.cell? ⟨g, 3, none⟩ = some (.pointer (some ⟨cb, 0, none⟩)) := cell_at h1 rfl; have c4 : w'.cell? ⟨g, 4, none⟩ = some (.int .u32 nx) := cell_at h1 rfl; have c5 : w'.cell? ⟨g, 5, none⟩ = some (.int .i64 sn) := cell_at h1 rfl; have q0 : w'.cell? ⟨bm, 0, none⟩ = some (.int .i64 m.k) := cell_at h2 rfl; clear h1 h2; go_simp; exact ⟨rfl, rfl⟩
  simp only [List.set_cons_zero, List.set_cons_succ]
  apply wpH_readL _ rfl rfl rfl
  · intro w' hw'; obtain ⟨h1, h2⟩ := hw'; have c0 : w'.cell? ⟨g, 0, none⟩ = some (.int .i64 v) := cell_at h1 rfl; have c1 : w'.cell? ⟨g, 1, none⟩ = some (.int .i64 mtu) := cell_at h1 rfl; have c2 : w'.cell? ⟨g, 2, none⟩ = some (.int .u32 st) := cell_at h1 rfl; have c3 : w'.cell? ⟨g, 3, none⟩ = some (.pointer (some ⟨cb, 0, none⟩)) := cell_at h1 rfl; have c4 : w'.cell? ⟨g, 4, none⟩ = some (.int .u32 nx) := cell_at h1 rfl; have c5 : w'.cell? ⟨g, 5, none⟩ = some (.int .i64 sn) := cell_at h1 rfl; have q0 : w'.cell? ⟨bm, 0, none⟩ = some (.int .i64 m.k) := cell_at h2 rfl; clear h1 h2; go_simp; exact ⟨rfl, rfl⟩
  simp only [List.set_cons_zero, List.set_cons_succ]
  apply wpH_readL _ rfl rfl rfl
  · intro w' hw'; obtain ⟨h1, h2⟩ := hw'; have c0 : w'.cell? ⟨g, 0, none⟩ = some (.int .i64 v) := cell_at h1 rfl; have c1 : w'.cell? ⟨g, 1, none⟩ = some (.int .i64 mtu) := cell_at h1 rfl; have c2 : w'.cell? ⟨g, 2, none⟩ = some (.int .u32 st) := cell_at h1 rfl; have c3 : w'.cell? ⟨g, 3, none⟩ = some (.pointer (some ⟨cb, 0, none⟩)) := cell_at h1 rfl; have c4 : w'.cell? ⟨g, 4, none⟩ = some (.int .u32 nx) := cell_at h1 rfl; have c5 : w'.cell? ⟨g, 5, none⟩ = some (.int .i64 sn) := cell_at h1 rfl; have q0 : w'.cell? ⟨bm, 0, none⟩ = some (.int .i64 m.k) := cell_at h2 rfl; clear h1 h2; go_simp; exact ⟨rfl, rfl⟩
  simp only [List.set_cons_zero, List.set_cons_succ]
  apply wpH_readL _ rfl rfl rfl
  · intro w' hw'; obtain ⟨h1, h2⟩ := hw'; have c0 : w'.cell? ⟨g, 0, none⟩ = some (.int .i64 v) := cell_at h1 rfl; have c1 : w'.cell? ⟨g, 1, none⟩ = some (.int .i64 mtu) := cell_at h1 rfl; have c2 : w'.cell? ⟨g, 2, none⟩ = some (.int .u32 st) := cell_at h1 rfl; have c3 : w'.cell? ⟨g, 3, none⟩ = some (.pointer (some ⟨cb, 0, none⟩)) := cell_at h1 rfl; have c4 : w'.cell? ⟨g, 4, none⟩ = some (.int .u32 nx) := cell_at h1 rfl; have c5 : w'.cell? ⟨g, 5, none⟩ = some (.int .i64 sn) := cell_at h1 rfl; have q0 : w'.cell? ⟨bm, 0, none⟩ = some (.int .i64 m.k) := cell_at h2 rfl; clear h1 h2; go_simp; exact ⟨rfl, rfl⟩
  simp only [List.set_cons_zero, List.set_cons_succ]
  apply wpH_readL _ rfl rfl rfl
  · intro w' hw'; obtain ⟨h1, h2⟩ := hw'; have c0 : w'.cell? ⟨g, 0, none⟩ = some (.int .i64 v) := cell_at h1 rfl; have c1 : w'.cell? ⟨g, 1, none⟩ = some (.int .i64 mtu) := cell_at h1 rfl; have c2 : w'.cell? ⟨g, 2, none⟩ = some (.int .u32 st) := cell_at h1 rfl; have c3 : w'.cell? ⟨g, 3, none⟩ = some (.pointer (some ⟨cb, 0, none⟩)) := cell_at h1 rfl; have c4 : w'.cell? ⟨g, 4, none⟩ = some (.int .u32 nx) := cell_at h1 rfl; have c5 : w'.cell? ⟨g, 5, none⟩ = some (.int .i64 sn) := cell_at h1 rfl; have q0 : w'.cell? ⟨bm, 0, none⟩ = some (.int .i64 m.k) := cell_at h2 rfl; clear h1 h2; go_simp; exact ⟨rfl, rfl⟩
  simp only [List.set_cons_zero, List.set_cons_succ]
  apply wpH_readL _ rfl rfl rfl
  · intro w' hw'; obtain ⟨h1, h2⟩ := hw'; have c0 : w'.cell? ⟨g, 0, none⟩ = some (.int .i64 v) := cell_at h1 rfl; have c1 : w'.cell? ⟨g, 1, none⟩ = some (.int .i64 mtu) := cell_at h1 rfl; have c2 : w'.cell? ⟨g, 2, none⟩ = some (.int .u32 st) := cell_at h1 rfl; have c3 : w'.cell? ⟨g, 3, none⟩ = some (.pointer (some ⟨cb, 0, none⟩)) := cell_at h1 rfl; have c4 : w'.cell? ⟨g, 4, none⟩ = some (.int .u32 nx) := cell_at h1 rfl; have c5 : w'.cell? ⟨g, 5, none⟩ = some (.int .i64 sn) := cell_at h1 rfl; have q0 : w'.cell? ⟨bm, 0, none⟩ = some (.int .i64 m.k) := cell_at h2 rfl; clear h1 h2; go_simp; exact ⟨rfl, rfl⟩
  simp only [List.set_cons_zero, List.set_cons_succ]
  apply wpH_readL _ rfl rfl rfl
  · intro w' hw'; obtain ⟨h1, h2⟩ := hw'; have c0 : w'.cell? ⟨g, 0, none⟩ = some (.int .i64 v) := cell_at h1 rfl; have c1 : w'.cell? ⟨g, 1, none⟩ = some (.int .i64 mtu) := cell_at h1 rfl; have c2 : w'.cell? ⟨g, 2, none⟩ = some (.int .u32 st) := cell_at h1 rfl; have c3 : w'.cell? ⟨g, 3, none⟩ = some (.pointer (some ⟨cb, 0, none⟩)) := cell_at h1 rfl; have c4 : w'.cell? ⟨g, 4, none⟩ = some (.int .u32 nx) := cell_at h1 rfl; have c5 : w'.cell? ⟨g, 5, none⟩ = some (.int .i64 sn) := cell_at h1 rfl; have q0 : w'.cell? ⟨bm, 0, none⟩ = some (.int .i64 m.k) := cell_at h2 rfl; clear h1 h2; go_simp; exact ⟨rfl, rfl⟩
  simp only [List.set_cons_zero, List.set_cons_succ]
  apply wpH_readL _ rfl rfl rfl
  · intro w' hw'; obtain ⟨h1, h2⟩ := hw'; have c0 : w'.cell? ⟨g, 0, none⟩ = some (.int .i64 v) := cell_at h1 rfl; have c1 : w'.cell? ⟨g, 1, none⟩ = some (.int .i64 mtu) := cell_at h1 rfl; have c2 : w'.cell? ⟨g, 2, none⟩ = some (.int .u32 st) := cell_at h1 rfl; have c3 : w'.cell? ⟨g, 3, none⟩ = some (.pointer (some ⟨cb, 0, none⟩)) := cell_at h1 rfl; have c4 : w'.cell? ⟨g, 4, none⟩ = some (.int .u32 nx) := cell_at h1 rfl; have c5 : w'.cell? ⟨g, 5, none⟩ = some (.int .i64 sn) := cell_at h1 rfl; have q0 : w'.cell? ⟨bm, 0, none⟩ = some (.int .i64 m.k) := cell_at h2 rfl; clear h1 h2; go_simp; exact ⟨rfl, rfl⟩
  simp only [List.set_cons_zero, List.set_cons_succ]
  apply wpH_readL _ rfl rfl rfl
  · intro w' hw'; obtain ⟨h1, h2⟩ := hw'; have c0 : w'.cell? ⟨g, 0, none⟩ = some (.int .i64 v) := cell_at h1 rfl; have c1 : w'.cell? ⟨g, 1, none⟩ = some (.int .i64 mtu) := cell_at h1 rfl; have c2 : w'.cell? ⟨g, 2, none⟩ = some (.int .u32 st) := cell_at h1 rfl; have c3 : w'.cell? ⟨g, 3, none⟩ = some (.pointer (some ⟨cb, 0, none⟩)) := cell_at h1 rfl; have c4 : w'.cell? ⟨g, 4, none⟩ = some (.int .u32 nx) := cell_at h1 rfl; have c5 : w'.cell? ⟨g, 5, none⟩ = some (.int .i64 sn) := cell_at h1 rfl; have q0 : w'.cell? ⟨bm, 0, none⟩ = some (.int .i64 m.k) := cell_at h2 rfl; clear h1 h2; go_simp; exact ⟨rfl, rfl⟩
  simp only [List.set_cons_zero, List.set_cons_succ]
  apply wpH_readL _ rfl rfl rfl
  · intro w' hw'; obtain ⟨h1, h2⟩ := hw'; have c0 : w'.cell? ⟨g, 0, none⟩ = some (.int .i64 v) := cell_at h1 rfl; have c1 : w'.cell? ⟨g, 1, none⟩ = some (.int .i64 mtu) := cell_at h1 rfl; have c2 : w'.cell? ⟨g, 2, none⟩ = some (.int .u32 st) := cell_at h1 rfl; have c3 : w'.cell? ⟨g, 3, none⟩ = some (.pointer (some ⟨cb, 0, none⟩)) := cell_at h1 rfl; have c4 : w'.cell? ⟨g, 4, none⟩ = some (.int .u32 nx) := cell_at h1 rfl; have c5 : w'.cell? ⟨g, 5, none⟩ = some (.int .i64 sn) := cell_at h1 rfl; have q0 : w'.cell? ⟨bm, 0, none⟩ = some (.int .i64 m.k) := cell_at h2 rfl; clear h1 h2; go_simp; exact ⟨rfl, rfl⟩
  simp only [List.set_cons_zero, List.set_cons_succ]
  apply wpH_readL _ rfl rfl rfl
  · intro w' hw'; obtain ⟨h1, h2⟩ := hw'; have c0 : w'.cell? ⟨g, 0, none⟩ = some (.int .i64 v) := cell_at h1 rfl; have c1 : w'.cell? ⟨g, 1, none⟩ = some (.int .i64 mtu) := cell_at h1 rfl; have c2 : w'.cell? ⟨g, 2, none⟩ = some (.int .u32 st) := cell_at h1 rfl; have c3 : w'.cell? ⟨g, 3, none⟩ = some (.pointer (some ⟨cb, 0, none⟩)) := cell_at h1 rfl; have c4 : w'.cell? ⟨g, 4, none⟩ = some (.int .u32 nx) := cell_at h1 rfl; have c5 : w'.cell? ⟨g, 5, none⟩ = some (.int .i64 sn) := cell_at h1 rfl; have q0 : w'.cell? ⟨bm, 0, none⟩ = some (.int .i64 m.k) := cell_at h2 rfl; clear h1 h2; go_simp; exact ⟨rfl, rfl⟩
  simp only [List.set_cons_zero, List.set_cons_succ]
  apply wpH_readL _ rfl rfl rfl
  · intro w' hw'; obtain ⟨h1, h2⟩ := hw'; have c0 : w'.cell? ⟨g, 0, none⟩ = some (.int .i64 v) := cell_at h1 rfl; have c1 : w'.cell? ⟨g, 1, none⟩ = some (.int .i64 mtu) := cell_at h1 rfl; have c2 : w'.cell? ⟨g, 2, none⟩ = some (.int .u32 st) := cell_at h1 rfl; have c3 : w'.cell? ⟨g, 3, none⟩ = some (.pointer (some ⟨cb, 0, none⟩)) := cell_at h1 rfl; have c4 : w'.cell? ⟨g, 4, none⟩ = some (.int .u32 nx) := cell_at h1 rfl; have c5 : w'.cell? ⟨g, 5, none⟩ = some (.int .i64 sn) := cell_at h1 rfl; have q0 : w'.cell? ⟨bm, 0, none⟩ = some (.int .i64 m.k) := cell_at h2 rfl; clear h1 h2; go_simp; exact ⟨rfl, rfl⟩
  simp only [List.set_cons_zero, List.set_cons_succ]
  apply wpH_readL _ rfl rfl rfl
  · intro w' hw'; obtain ⟨h1, h2⟩ := hw'; have c0 : w'.cell? ⟨g, 0, none⟩ = some (.int .i64 v) := cell_at h1 rfl; have c1 : w'.cell? ⟨g, 1, none⟩ = some (.int .i64 mtu) := cell_at h1 rfl; have c2 : w'.cell? ⟨g, 2, none⟩ = some (.int .u32 st) := cell_at h1 rfl; have c3 : w'.cell? ⟨g, 3, none⟩ = some (.pointer (some ⟨cb, 0, none⟩)) := cell_at h1 rfl; have c4 : w'.cell? ⟨g, 4, none⟩ = some (.int .u32 nx) := cell_at h1 rfl; have c5 : w'.cell? ⟨g, 5, none⟩ = some (.int .i64 sn) := cell_at h1 rfl; have q0 : w'.cell? ⟨bm, 0, none⟩ = some (.int .i64 m.k) := cell_at h2 rfl; clear h1 h2; go_simp; exact ⟨rfl, rfl⟩
  simp only [List.set_cons_zero, List.set_cons_succ]
  apply wpH_readL _ rfl rfl rfl
  · intro w' hw'; obtain ⟨h1, h2⟩ := hw'; have c0 : w'.cell? ⟨g, 0, none⟩ = some (.int .i64 v) := cell_at h1 rfl; have c1 : w'.cell? ⟨g, 1, none⟩ = some (.int .i64 mtu) := cell_at h1 rfl; have c2 : w'.cell? ⟨g, 2, none⟩ = some (.int .u32 st) := cell_at h1 rfl; have c3 : w'.cell? ⟨g, 3, none⟩ = some (.pointer (some ⟨cb, 0, none⟩)) := cell_at h1 rfl; have c4 : w'.cell? ⟨g, 4, none⟩ = some (.int .u32 nx) := cell_at h1 rfl; have c5 : w'.cell? ⟨g, 5, none⟩ = some (.int .i64 sn) := cell_at h1 rfl; have q0 : w'.cell? ⟨bm, 0, none⟩ = some (.int .i64 m.k) := cell_at h2 rfl; clear h1 h2; go_simp; exact ⟨rfl, rfl⟩
  simp only [List.set_cons_zero, List.set_cons_succ]
  apply wpH_readL _ rfl rfl rfl
  · intro w' hw'; obtain ⟨h1, h2⟩ := hw'; have c0 : w'.cell? ⟨g, 0, none⟩ = some (.int .i64 v) := cell_at h1 rfl; have c1 : w'.cell? ⟨g, 1, none⟩ = some (.int .i64 mtu) := cell_at h1 rfl; have c2 : w'.cell? ⟨g, 2, none⟩ = some (.int .u32 st) := cell_at h1 rfl; have c3 : w'.cell? ⟨g, 3, none⟩ = some (.pointer (some ⟨cb, 0, none⟩)) := cell_at h1 rfl; have c4 : w'.cell? ⟨g, 4, none⟩ = some (.int .u32 nx) := cell_at h1 rfl; have c5 : w'.cell? ⟨g, 5, none⟩ = some (.int .i64 sn) := cell_at h1 rfl; have q0 : w'.cell? ⟨bm, 0, none⟩ = some (.int .i64 m.k) := cell_at h2 rfl; clear h1 h2; go_simp; exact ⟨rfl, rfl⟩
  simp only [List.set_cons_zero, List.set_cons_succ]
  apply wpH_readL _ rfl rfl rfl
  · intro w' hw'; obtain ⟨h1, h2⟩ := hw'; have c0 : w'.cell? ⟨g, 0, none⟩ = some (.int .i64 v) := cell_at h1 rfl; have c1 : w'.cell? ⟨g, 1, none⟩ = some (.int .i64 mtu) := cell_at h1 rfl; have c2 : w'.cell? ⟨g, 2, none⟩ = some (.int .u32 st) := cell_at h1 rfl; have c3 : w'.cell? ⟨g, 3, none⟩ = some (.pointer (some ⟨cb, 0, none⟩)) := cell_at h1 rfl; have c4 : w'.cell? ⟨g, 4, none⟩ = some (.int .u32 nx) := cell_at h1 rfl; have c5 : w'.cell? ⟨g, 5, none⟩ = some (.int .i64 sn) := cell_at h1 rfl; have q0 : w'.cell? ⟨bm, 0, none⟩ = some (.int .i64 m.k) := cell_at h2 rfl; clear h1 h2; go_simp; exact ⟨rfl, rfl⟩
  simp only [List.set_cons_zero, List.set_cons_succ]
  apply wpH_readL _ rfl rfl rfl
  · intro w' hw'; obtain ⟨h1, h2⟩ := hw'; have c0 : w'.cell? ⟨g, 0, none⟩ = some (.int .i64 v) := cell_at h1 rfl; have c1 : w'.cell? ⟨g, 1, none⟩ = some (.int .i64 mtu) := cell_at h1 rfl; have c2 : w'.cell? ⟨g, 2, none⟩ = some (.int .u32 st) := cell_at h1 rfl; have c3 : w'.cell? ⟨g, 3, none⟩ = some (.pointer (some ⟨cb, 0, none⟩)) := cell_at h1 rfl; have c4 : w'.cell? ⟨g, 4, none⟩ = some (.int .u32 nx) := cell_at h1 rfl; have c5 : w'.cell? ⟨g, 5, none⟩ = some (.int .i64 sn) := cell_at h1 rfl; have q0 : w'.cell? ⟨bm, 0, none⟩ = some (.int .i64 m.k) := cell_at h2 rfl; clear h1 h2; go_simp; exact ⟨rfl, rfl⟩
  simp only [List.set_cons_zero, List.set_cons_succ]
  apply wpH_readL _ rfl rfl rfl
  · intro w' hw'; obtain ⟨h1, h2⟩ := hw'; have c0 : w'.cell? ⟨g, 0, none⟩ = some (.int .i64 v) := cell_at h1 rfl; have c1 : w'.cell? ⟨g, 1, none⟩ = some (.int .i64 mtu) := cell_at h1 rfl; have c2 : w'.cell? ⟨g, 2, none⟩ = some (.int .u32 st) := cell_at h1 rfl; have c3 : w'.cell? ⟨g, 3, none⟩ = some (.pointer (some ⟨cb, 0, none⟩)) := cell_at h1 rfl; have c4 : w'.cell? ⟨g, 4, none⟩ = some (.int .u32 nx) := cell_at h1 rfl; have c5 : w'.cell? ⟨g, 5, none⟩ = some (.int .i64 sn) := cell_at h1 rfl; have q0 : w'.cell? ⟨bm, 0, none⟩ = some (.int .i64 m.k) := cell_at h2 rfl; clear h1 h2; go_simp; exact ⟨rfl, rfl⟩
  simp only [List.set_cons_zero, List.set_cons_succ]
  apply wpH_readL _ rfl rfl rfl
  · intro w' hw'; obtain ⟨h1, h2⟩ := hw'; have c0 : w'.cell? ⟨g, 0, none⟩ = some (.int .i64 v) := cell_at h1 rfl; have c1 : w'.cell? ⟨g, 1, none⟩ = some (.int .i64 mtu) := cell_at h1 rfl; have c2 : w'.cell? ⟨g, 2, none⟩ = some (.int .u32 st) := cell_at h1 rfl; have c3 : w'.cell? ⟨g, 3, none⟩ = some (.pointer (some ⟨cb, 0, none⟩)) := cell_at h1 rfl; have c4 : w'.cell? ⟨g, 4, none⟩ = some (.int .u32 nx) := cell_at h1 rfl; have c5 : w'.cell? ⟨g, 5, none⟩ = some (.int .i64 sn) := cell_at h1 rfl; have q0 : w'.cell? ⟨bm, 0, none⟩ = some (.int .i64 m.k) := cell_at h2 rfl; clear h1 h2; go_simp; exact ⟨rfl, rfl⟩
  simp only [List.set_cons_zero, List.set_cons_succ]
  apply wpH_callL (f := 82) (args := #[.agg #[.int .i64 v, .int .i64 mtu, .int .u32 st]]) (fun _ => trivial) rfl rfl rfl hC3 rfl (fun c h => by cases h) (by kernel_rfl)
  refine callsIn_wide.2 ((P.conf_Room.calls 1 v mtu st (mtu - 15) w3.drew HE.out.2.2.2.2).mono ?_)
  rintro e w4 ⟨rfl, hb4⟩
  refine ⟨_, rfl, ?_⟩
  simp only [List.set_cons_zero, List.set_cons_succ]
  rw [HR.out.1]
  have hb4 : Below w3.heap.size w3 w4 := ((Below.refl _ w3).drew).trans hb4
  have hC4 : w4.heap[g]? = some (.cells #[.int .i64 v, .int .i64 mtu, .int .u32 st, .pointer (some ⟨cb, 0, none⟩), .int .u32 nx, .int .i64 sn] 146) ∧ w4.heap[bm]? = some (.cells (Ms.cs m Ap cp Ac cc) 69) := ⟨(hb4.block g (Array.getElem?_eq_some_iff.1 hC3.1).1).trans hC3.1, (hb4.block bm (Array.getElem?_eq_some_iff.1 hC3.2).1).trans hC3.2⟩
  have hfr := frames_call v m.k nx 0 0 (by have := HR.out.2; omega) HE.out.2.2.1 w4 A c L r (by rw [HNL.out]; exact Kd.C_below HF.out.2 hb4) (by rw [HNL.out]; exact hc) HE.out.2.1 (by have := HR.out.1; have := HE.out.2.2.2.1; omega)
  rw [HNL.out] at hfr
  apply wpH_callL (f := 81) (args := #[.agg #[.int .i64 v, .int .i64 m.k, .int .u32 nx, .int .i64 0, .int .i64 0], .slice A nl c, .int .i64 (r : Int)]) (fun _ => trivial) rfl rfl rfl hC4 rfl (fun c h => by cases h) (by kernel_rfl)
  refine callsIn_wide.2 (hfr.mono ?_)
  rintro e w5 ⟨vo, rfl, hRo, hb5⟩
  refine ⟨_, rfl, ?_⟩
  simp only [List.set_cons_zero, List.set_cons_succ]
  have hC5 : w5.heap[g]? = some (.cells #[.int .i64 v, .int .i64 mtu, .int .u32 st, .pointer (some ⟨cb, 0, none⟩), .int .u32 nx, .int .i64 sn] 146) ∧ w5.heap[bm]? = some (.cells (Ms.cs m Ap cp Ac cc) 69) := ⟨(hb5.block g (Array.getElem?_eq_some_iff.1 hC4.1).1).trans hC4.1, (hb5.block bm (Array.getElem?_eq_some_iff.1 hC4.2).1).trans hC4.2⟩
  have hbw : Below w.heap.size w w5 := HF.out.1.trans ((hb4.trans (hb5.mono hb4.size)).mono HF.out.1.size)
  obtain ⟨Ao, co, ho⟩ := Kd.R_slice hRo
  have HG := Lib.hid (And.intro hbw (Kd.R_lower hRo (Nat.le_trans HF.out.1.size hb4.size) : Kd.R k133 133 w5 w.heap.size (fun _ => True) vo _))
  obtain ⟨fl, hfl⟩ : ∃ fl, frs v m.k nx (((nl + r - 1) / r : Nat) : Int) 0 (ptf nl r L) = fl := ⟨_, rfl⟩
  rw [hfl] at HG ho
  have HFL := Lib.hid hfl
  obtain ⟨fn, hfn⟩ : ∃ fn, fl.length = fn := ⟨_, rfl⟩
  have HFN := Lib.hid hfn
  rw [hfn] at ho
  subst ho
  clear hb4 hb5 hRo hbw hC3 hC4 hfr hfl hfn HE HC3 HF HB
  apply wpH_readL _ rfl rfl rfl
  · intro w' hw'; obtain ⟨h1, h2⟩ := hw'; have c0 : w'.cell? ⟨g, 0, none⟩ = some (.int .i64 v) := cell_at h1 rfl; have c1 : w'.cell? ⟨g, 1, none⟩ = some (.int .i64 mtu) := cell_at h1 rfl; have c2 : w'.cell? ⟨g, 2, none⟩ = some (.int .u32 st) := cell_at h1 rfl; have c3 : w'.cell? ⟨g, 3, none⟩ = some (.pointer (some ⟨cb, 0, none⟩)) := cell_at h1 rfl; have c4 : w'.cell? ⟨g, 4, none⟩ = some (.int .u32 nx) := cell_at h1 rfl; have c5 : w'.cell? ⟨g, 5, none⟩ = some (.int .i64 sn) := cell_at h1 rfl; have q0 : w'.cell? ⟨bm, 0, none⟩ = some (.int .i64 m.k) := cell_at h2 rfl; clear h1 h2; go_simp; exact ⟨rfl, rfl⟩
  simp only [List.set_cons_zero, List.set_cons_succ]
  apply wpH_readL _ rfl rfl rfl
  · intro w' hw'; obtain ⟨h1, h2⟩ := hw'; have c0 : w'.cell? ⟨g, 0, none⟩ = some (.int .i64 v) := cell_at h1 rfl; have c1 : w'.cell? ⟨g, 1, none⟩ = some (.int .i64 mtu) := cell_at h1 rfl; have c2 : w'.cell? ⟨g, 2, none⟩ = some (.int .u32 st) := cell_at h1 rfl; have c3 : w'.cell? ⟨g, 3, none⟩ = some (.pointer (some ⟨cb, 0, none⟩)) := cell_at h1 rfl; have c4 : w'.cell? ⟨g, 4, none⟩ = some (.int .u32 nx) := cell_at h1 rfl; have c5 : w'.cell? ⟨g, 5, none⟩ = some (.int .i64 sn) := cell_at h1 rfl; have q0 : w'.cell? ⟨bm, 0, none⟩ = some (.int .i64 m.k) := cell_at h2 rfl; clear h1 h2; go_simp; exact ⟨rfl, rfl⟩
  simp only [List.set_cons_zero, List.set_cons_succ]
  apply wpH_readL _ rfl rfl rfl
  · intro w' hw'; obtain ⟨h1, h2⟩ := hw'; have c0 : w'.cell? ⟨g, 0, none⟩ = some (.int .i64 v) := cell_at h1 rfl; have c1 : w'.cell? ⟨g, 1, none⟩ = some (.int .i64 mtu) := cell_at h1 rfl; have c2 : w'.cell? ⟨g, 2, none⟩ = some (.int .u32 st) := cell_at h1 rfl; have c3 : w'.cell? ⟨g, 3, none⟩ = some (.pointer (some ⟨cb, 0, none⟩)) := cell_at h1 rfl; have c4 : w'.cell? ⟨g, 4, none⟩ = some (.int .u32 nx) := cell_at h1 rfl; have c5 : w'.cell? ⟨g, 5, none⟩ = some (.int .i64 sn) := cell_at h1 rfl; have q0 : w'.cell? ⟨bm, 0, none⟩ = some (.int .i64 m.k) := cell_at h2 rfl; clear h1 h2; go_simp; exact ⟨rfl, rfl⟩
  simp only [List.set_cons_zero, List.set_cons_succ]
  apply wpH_readL _ rfl rfl rfl
  · intro w' hw'; obtain ⟨h1, h2⟩ := hw'; have c0 : w'.cell? ⟨g, 0, none⟩ = some (.int .i64 v) := cell_at h1 rfl; have c1 : w'.cell? ⟨g, 1, none⟩ = some (.int .i64 mtu) := cell_at h1 rfl; have c2 : w'.cell? ⟨g, 2, none⟩ = some (.int .u32 st) := cell_at h1 rfl; have c3 : w'.cell? ⟨g, 3, none⟩ = some (.pointer (some ⟨cb, 0, none⟩)) := cell_at h1 rfl; have c4 : w'.cell? ⟨g, 4, none⟩ = some (.int .u32 nx) := cell_at h1 rfl; have c5 : w'.cell? ⟨g, 5, none⟩ = some (.int .i64 sn) := cell_at h1 rfl; have q0 : w'.cell? ⟨bm, 0, none⟩ = some (.int .i64 m.k) := cell_at h2 rfl; clear h1 h2; go_simp; exact ⟨rfl, rfl⟩
  simp only [List.set_cons_zero, List.set_cons_succ]
  apply wpH_readL _ rfl rfl rfl
  · intro w' hw'; obtain ⟨h1, h2⟩ := hw'; have c0 : w'.cell? ⟨g, 0, none⟩ = some (.int .i64 v) := cell_at h1 rfl; have c1 : w'.cell? ⟨g, 1, none⟩ = some (.int .i64 mtu) := cell_at h1 rfl; have c2 : w'.cell? ⟨g, 2, none⟩ = some (.int .u32 st) := cell_at h1 rfl; have c3 : w'.cell? ⟨g, 3, none⟩ = some (.pointer (some ⟨cb, 0, none⟩)) := cell_at h1 rfl; have c4 : w'.cell? ⟨g, 4, none⟩ = some (.int .u32 nx) := cell_at h1 rfl; have c5 : w'.cell? ⟨g, 5, none⟩ = some (.int .i64 sn) := cell_at h1 rfl; have q0 : w'.cell? ⟨bm, 0, none⟩ = some (.int .i64 m.k) := cell_at h2 rfl; clear h1 h2; go_simp; exact ⟨rfl, rfl⟩
  simp only [List.set_cons_zero, List.set_cons_succ]
  refine wpH_end hC5 ?_
  go_upto_region 9 with (fail)
  have c0 : w5.cell? ⟨g, 0, none⟩ = some (.int .i64 v) := cell_at hC5.1 rfl
  have c1 : w5.cell? ⟨g, 1, none⟩ = some (.int .i64 mtu) := cell_at hC5.1 rfl
  have c2 : w5.cell? ⟨g, 2, none⟩ = some (.int .u32 st) := cell_at hC5.1 rfl
  have c3 : w5.cell? ⟨g, 3, none⟩ = some (.pointer (some ⟨cb, 0, none⟩)) := cell_at hC5.1 rfl
  have c4 : w5.cell? ⟨g, 4, none⟩ = some (.int .u32 nx) := cell_at hC5.1 rfl
  have c5 : w5.cell? ⟨g, 5, none⟩ = some (.int .i64 sn) := cell_at hC5.1 rfl
  have HC5 := Lib.hid hC5
  clear hC5
  go_wp2_with (fail)
  refine (P.serial_Add.calls nx 1 ((nx + 1) % 4294967296) w5 (by unfold P.serial_Add.f; rfl)).mono ?_
  rintro e w6 ⟨rfl, hd⟩
  have hb6 := hd.below
  have g6 := (hb6.block g (Array.getElem?_eq_some_iff.1 HC5.out.1).1).trans HC5.out.1
  have G6 := Lib.hid (And.intro (HG.out.1.trans (hb6.mono HG.out.1.size)) (And.intro (Kd.R_below HG.out.2 hb6) g6))
  have f4 : w6.frozen? ⟨g, 4, none⟩ = false := frozen_at g6
  have d4 : w6.cell? ⟨g, 4, none⟩ = some (.int .u32 nx) := cell_at g6 rfl
  clear hb6 hd c0 c1 c2 c3 c4 c5 g6 HG HC5
  obtain ⟨nx2, hnx⟩ : ∃ nx2, (nx + 1) % 4294967296 = nx2 := ⟨_, rfl⟩
  have HNX := Lib.hid hnx
  rw [hnx]
  clear hnx
  go_upto_region 10 with (fail)
  have st1 : Stab (fun b => b = g) w6.heap.size w6 (w6.setCell ⟨g, 4, none⟩ (.int .u32 nx2)) := (Stab.refl _ _ _).set1 4 _
  have x0 : (w6.setCell ⟨g, 4, none⟩ (.int .u32 nx2)).heap[g]? = some (.cells #[.int .i64 v, .int .i64 mtu, .int .u32 st, .pointer (some ⟨cb, 0, none⟩), .int .u32 nx2, .int .i64 sn] 146) := hs_at G6.out.2.2 rfl
  generalize w6.setCell ⟨g, 4, none⟩ (.int .u32 nx2) = X at st1 x0 ⊢
  have c5 : X.cell? ⟨g, 5, none⟩ = some (.int .i64 sn) := cell_at x0 rfl
  have f5 : X.frozen? ⟨g, 5, none⟩ = false := frozen_at x0
  have HX := Lib.hid (And.intro st1 x0)
  clear st1 x0 f4 d4
  go_wp2_with (fail)
  obtain ⟨st1, x0⟩ := HX.out
  obtain ⟨g1, g2, g3⟩ := G6.out
  have st2 : Stab (fun b => b = g) w6.heap.size w6 (X.setCell ⟨g, 5, none⟩ (.int .i64 (wrap64 (sn + 1)))) := st1.set1 5 _
  have hgw : g < w.heap.size := HGW.out
  refine bodyPost_ret (v := .tuple #[.slice Ao fn co, .int .i64 0]) (by simp [results, Tryz.results42, go_sem]) rfl ⟨_, rfl, ?_, ?_, ?_⟩
  · rw [HNL.out, HFL.out]
    exact Stab.R g2 st2 hgw
  · rw [HNX.out]; exact hs_at x0 rfl
  · exact (Keep.of_below g1).trans (StabN.keep st2 (fun b hb _ h => hb h))
end Go.Proofs.YtgdlpgakhhebeaaGreatDoor
