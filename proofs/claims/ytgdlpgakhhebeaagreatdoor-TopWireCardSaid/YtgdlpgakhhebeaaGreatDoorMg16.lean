/- Part 16 of the proof of TopWire: Pen, Pen2, Pen3, Put, Cls, Zig, Pth, Ptw. -/
import Derived.Lib.Zigzag
import Derived.Test.YtgdlpgakhhebeaaGreatDoorMg14
import Derived.Test.YtgdlpgakhhebeaaGreatDoorMg15
section
set_option linter.unusedVariables false
set_option linter.unusedSimpArgs false
namespace Go.Proofs.YtgdlpgakhhebeaaGreatDoor
open Go.RowKit Go.Proofs.YtgdlpgakhhebeaaGreatDoorW.PrintWords Go.Proofs.YtgdlpgakhhebeaaGreatDoorW.PrintMore
attribute [local go_sem] Oper.semAt_some
attribute [local go_sem] max2_int min2_int max_two min_two max_three min_three max_four min_four

/-- A pen with a room of 192 that has written xs. -/
def PenS (W : World) (g : Nat) (xs : List Int) : Prop := ∃ A c, W.heap[g]? = some (.cells #[.slice A xs.length c, .int .i64 192, .bool false] 381) ∧ Kd.R (Kd.int .u8) 5 W (g + 1) (fun _ => True) (.slice A xs.length c) xs
/-- What a pen's writing leaves. -/
structure PenK (g : Nat) (w w' : World) : Prop where
  below : Below g w w'
  same : ∀ (k : Nat) (cs : Array Value) (t : Nat), w.heap[k]? = some (.cells cs t) → t ≠ 5 → k ≠ g → w'.heap[k]? = some (.cells cs t)
theorem PenK.refl (g : Nat) (w : World) : PenK g w w := ⟨Below.refl _ _, fun _ _ _ h _ _ => h⟩
theorem PenK.trans {g : Nat} {a b c : World} (h : PenK g a b) (k : PenK g b c) : PenK g a c := ⟨h.below.trans k.below, fun q cs t hq h5 hg => k.same q cs t (h.same q cs t hq h5 hg) h5 hg⟩
theorem PenK.of_below {g : Nat} {w w' : World} (h : Below w.heap.size w w') (hg : g ≤ w.heap.size) : PenK g w w' := ⟨h.mono hg, fun k cs t hk _ _ => (h.block k (Array.getElem?_eq_some_iff.1 hk).1).trans hk⟩
theorem PenS.below {w w' : World} {g : Nat} {xs : List Int} (h : PenS w g xs) (hb : Below w.heap.size w w') : PenS w' g xs := by
  obtain ⟨A, c, h1, h2⟩ := h
  exact ⟨A, c, (hb.block g (Array.getElem?_eq_some_iff.1 h1).1).trans h1, Kd.R_below h2 hb⟩
theorem PenS.lt {w : World} {g : Nat} {xs : List Int} (h : PenS w g xs) : g < w.heap.size := by
  obtain ⟨A, c, h1, _⟩ := h
  exact (Array.getElem?_eq_some_iff.1 h1).1

theorem penNew_call (w : World) : Calls Tryz.prog 140 #[.int .i64 192] w fun e w' => e = .returned (.pointer (some ⟨w.heap.size, 0, none⟩)) ∧ PenS w' w.heap.size [] ∧ Below w.heap.size w w' := by
  go_enter Tryz.func140, Tryz.ntmps140
  go_wp2
  go_ret
  exact ⟨rfl, ⟨none, 0, World.alloc_heap_new w _, Kd.R_nil _ _ _ _ _⟩, (Below.refl _ w).alloc (Nat.le_refl _) _⟩

set_option maxRecDepth 100000 in
set_option maxHeartbeats 1000000 in
theorem penRaw_call (w : World) (g : Nat) (xs ys : List Int) (hp : PenS w g xs) (B : Option Addr) (d : Nat) (hr : Kd.C (Kd.int .u8) w B ys.length ys) (hd : ys.length ≤ d) (hl : xs.length + ys.length ≤ 192) :
    Calls Tryz.prog 192 #[.pointer (some ⟨g, 0, none⟩), .slice B ys.length d] w fun e w' => e = .returned (.int .i64 0) ∧ PenS w' g (xs ++ ys) ∧ PenK g w w' := by
  obtain ⟨A, c, hg, hR⟩ := hp
  obtain ⟨m, hm⟩ : ∃ m, ys.length = m := ⟨_, rfl⟩
  obtain ⟨n, hn⟩ : ∃ n, xs.length = n := ⟨_, rfl⟩
  rw [hm, hn] at hl
  rw [hm] at hd ⊢
  rw [hn] at hg
  have c0 : w.cell? ⟨g, 0, none⟩ = some (.slice A n c) := cell_at hg rfl
  have c1 : w.cell? ⟨g, 1, none⟩ = some (.int .i64 192) := cell_at hg rfl
  have c2 : w.cell? ⟨g, 2, none⟩ = some (.bool false) := cell_at hg rfl
  have e1 : wrap64 (192 - (n : Int)) = ((192 - n : Nat) : Int) := by unfold wrap64; omega
  have e2 : (((192 - n : Nat) : Int) < (m : Int)) = False := eq_false (by omega)
  have HG := Lib.hid (And.intro hg (And.intro hR (And.intro hr (And.intro hm hn))))
  clear hg hR hr hm hn
  go_enter Tryz.func192, Tryz.ntmps192
  go_wp2_with (fail)
  go_big_region
  obtain ⟨hg, hR, hr, hm, hn⟩ := HG.out
  have bd : Below w.heap.size w w.drew := (Below.refl _ w).drew
  obtain ⟨v1, w1, hrun, hR1, hg1, hat⟩ := run_app_row (P := Tryz.prog) (W := w.drew) (t := 25) (e := 5) (ty := 25) (c := d) .u8 Tryz.underlying25 infoB (by decide) (Kd.R_below hR bd) (Kd.C_below hr bd) (fun _ _ => trivial) (by show g + 1 ≤ w.heap.size; have := (Array.getElem?_eq_some_iff.1 hg).1; omega) (by rw [hm, hn]; omega)
  rw [hm, hn] at hrun
  obtain ⟨A1, c1', e3⟩ := Kd.R_slice hR1
  subst e3
  have hgl : g < w.heap.size := (Array.getElem?_eq_some_iff.1 hg).1
  have hbase : ∀ q, (Value.slice A xs.length c).ownBlock = some q → g + 1 ≤ q := fun q e => Kd.R_base hR q e
  have hg1' : w1.heap[g]? = some (.cells #[.slice A n c, .int .i64 192, .bool false] 381) := (hg1.block g hgl (fun e => by have := hbase g e.symm; omega)).trans hg
  have hK : PenK g w w1 := by
    refine ⟨bd.mono (Nat.le_of_lt hgl) |>.grown hg1 (Nat.le_of_lt hgl) (fun q e => by have := hbase q e; omega), fun k cs t hk h5 hkg => ?_⟩
    refine (hg1.block k (Array.getElem?_eq_some_iff.1 hk).1 (fun e => ?_)).trans hk
    obtain ⟨cells, hc⟩ := Kd.R_typed hR k e.symm
    rw [hk] at hc
    cases hc
    exact h5 rfl
  have cg := cell_at hg1' (j := 0) rfl
  have fg := frozen_at hg1' (j := 0)
  have HF := Lib.hid (And.intro hR1 (And.intro hg1' hK))
  obtain ⟨L, hL⟩ : ∃ L, (xs ++ ys).length = L := ⟨_, rfl⟩
  have HL := Lib.hid hL
  rw [hL] at hrun
  clear hR1 hg1' hK hg1 hat hbase hg hR hr hm hn bd c1 c2 hL
  go_wp2_with (at_builtin; refine run_app (.tmp 40) (.tmp 41) 25 rfl rfl hrun ?_)
  refine bodyPost_ret (v := .int .i64 0) (by simp [results, Tryz.results192, go_sem]) rfl ⟨rfl, ?_⟩
  obtain ⟨g1, g2, g3⟩ := HF.out
  have s7 : Stab (fun b => b = g) 0 w1 (w1.setCell ⟨g, 0, none⟩ (.slice A1 L c1')) := Stab.setT (T := fun b => b = g) (p := ⟨g, 0, none⟩) w1 rfl _
  refine ⟨⟨A1, c1', ?_, R_stab (Kd.R_mono (Kd.R_bound g1) (ok' := fun q => g + 1 ≤ q) (fun q hq => hq.2.1)) s7 (fun q hq h => by have h : q = g := h; omega) |> fun h => Kd.R_mono h (fun _ _ => trivial)⟩, g3.trans ⟨(Below.refl _ _).setCell (p := ⟨g, 0, none⟩) (Nat.le_refl _) _, fun k cs t hk h5 hkg => (Below.heap_setCell w1 ⟨g, 0, none⟩ _ k hkg).trans hk⟩⟩
  rw [HL.out]
  exact heap_setCell_at g2
end Go.Proofs.YtgdlpgakhhebeaaGreatDoor
end
section
set_option linter.unusedVariables false
set_option linter.unusedSimpArgs false
namespace Go.Proofs.YtgdlpgakhhebeaaGreatDoor
open Go.RowKit Go.Proofs.YtgdlpgakhhebeaaGreatDoorW.PrintWords Go.Proofs.YtgdlpgakhhebeaaGreatDoorW.PrintMore
attribute [local go_sem] Oper.semAt_some
attribute [local go_sem] max2_int min2_int max_two min_two max_three min_three max_four min_four

set_option maxRecDepth 100000 in
set_option maxHeartbeats 1000000 in
theorem penNumber_call (w : World) (g : Nat) (xs ys l : List Int) (k : Nat) (hp : PenS w g xs) (B : Option Addr) (d : Nat) (hr : Kd.C (Kd.int .u64) w B l.length l) (hd : l.length ≤ d) (hf : P.varint_Put.f k l = some ys) (hl : xs.length + ys.length ≤ 192) :
    Calls Tryz.prog 141 #[.pointer (some ⟨g, 0, none⟩), .slice B l.length d] w fun e w' => e = .returned (.int .i64 0) ∧ PenS w' g (xs ++ ys) ∧ PenK g w w' := by
  have hput := P.varint_Put.calls k B d l ys w hr hd hf
  have HP := Lib.hid (And.intro hp hl)
  have hgl := hp.lt
  generalize l.length = n at *
  clear hr hp hf hl
  go_enter Tryz.func141, Tryz.ntmps141
  go_wp2_with (fail)
  refine hput.mono ?_
  rintro e w1 ⟨v, rfl, hR, hb⟩
  obtain ⟨A1, c1, rfl, hc1, hC1⟩ := Kd.R_reads hR
  have hraw := penRaw_call w1 g xs ys (HP.out.1.below hb) A1 c1 hC1 hc1 HP.out.2
  have HR := Lib.hid (And.intro hraw (PenK.of_below hb (Nat.le_of_lt hgl)))
  clear hput hR hb hraw hC1
  go_wp2_with (fail)
  refine HR.out.1.mono ?_
  rintro e w2 ⟨rfl, h1, h2⟩
  have HF := Lib.hid (And.intro h1 (HR.out.2.trans h2))
  clear h1 h2 HR
  go_wp2_with (fail)
  go_ret
  exact ⟨rfl, HF.out.1, HF.out.2⟩

set_option maxRecDepth 100000 in
set_option maxHeartbeats 1000000 in
theorem penBytes_call (w : World) (g : Nat) (xs : List Int) (hp : PenS w g xs) (hl : xs.length ≤ 192) :
    Calls Tryz.prog 146 #[.pointer (some ⟨g, 0, none⟩)] w fun e w' => ∃ v, e = .returned v ∧ Kd.R (Kd.int .u8) 5 w' w.heap.size (fun _ => True) v xs ∧ Below w.heap.size w w' := by
  obtain ⟨A, c, hg, hR⟩ := hp
  obtain ⟨A', c', e0, hc', hC⟩ := Kd.R_reads hR
  obtain ⟨n, hn⟩ : ∃ n, xs.length = n := ⟨_, rfl⟩
  have hCn := hC
  obtain ⟨rfl, -, rfl⟩ : A = A' ∧ xs.length = xs.length ∧ c = c' := by simpa using e0
  obtain ⟨v1, w1, hrun, hR1, hg1, hat⟩ := run_app_row (P := Tryz.prog) (W := w) (base := w.heap.size) (ok := fun _ => True) (t := 25) (e := 5) (ty := 25) (c := c) .u8 Tryz.underlying25 infoB (by decide) (Kd.R_nil (Kd.int .u8) 5 w w.heap.size (fun _ => True)) hC (fun _ _ => trivial) (Nat.le_refl _) (by simp; omega)
  have hb1 : Below w.heap.size w w1 := (Below.refl _ w).grown hg1 (Nat.le_refl _) (fun q e => by cases e)
  have HF := Lib.hid (And.intro hR1 hb1)
  rw [hn] at hrun hg
  have cg := cell_at hg (j := 0) rfl
  clear hR hC hCn hR1 hg1 hat hb1 hg hn e0 hc'
  go_enter Tryz.func146, Tryz.ntmps146
  go_wp2_with (at_builtin; refine run_app _ (.tmp 9) 25 rfl rfl hrun ?_)
  go_ret
  exact ⟨_, rfl, HF.out.1, HF.out.2⟩

set_option maxRecDepth 100000 in
set_option maxHeartbeats 1000000 in
theorem penField_call (w : World) (g : Nat) (xs ys zs : List Int) (k : Nat) (hp : PenS w g xs) (B : Option Addr) (d : Nat) (hr : Kd.C (Kd.int .u8) w B ys.length ys) (hd : ys.length ≤ d) (hf : P.varint_Put.f k [(ys.length : Int)] = some zs) (hl : xs.length + (zs.length + ys.length) ≤ 192) :
    Calls Tryz.prog 145 #[.pointer (some ⟨g, 0, none⟩), .slice B ys.length d] w fun e w' => e = .returned (.int .i64 0) ∧ PenS w' g (xs ++ (zs ++ ys)) ∧ PenK g w w' := by
  have hgl := hp.lt
  have bA : Below w.heap.size w (w.alloc (.cells #[.int .u64 (ys.length : Int)] 35)) := (Below.refl _ w).alloc (Nat.le_refl _) _
  have hput := P.varint_Put.calls k (some ⟨w.heap.size, 0, none⟩) 1 [(ys.length : Int)] zs (w.alloc (.cells #[.int .u64 (ys.length : Int)] 35)) (C_block .u64 [(ys.length : Int)] (World.alloc_heap_new w _) (by simp)) (by simp) hf
  have hyl : ys.length ≤ 192 := by omega
  obtain ⟨n, hn⟩ : ∃ n, ys.length = n := ⟨_, rfl⟩
  rw [hn] at bA
  have HP := Lib.hid (And.intro hp (And.intro hl (And.intro hr (And.intro hn bA))))
  rw [hn] at hput hyl hd ⊢
  clear hr hp hf hl bA hn
  have e1 : ((n : Int) % 18446744073709551616) = (n : Int) := by omega
  go_enter Tryz.func145, Tryz.ntmps145
  go_wp2_with (fail)
  refine hput.mono ?_
  rintro e w1 ⟨v0, rfl, hR, hb⟩
  have hb1 : Below w.heap.size w w1 := HP.out.2.2.2.2.trans (hb.mono HP.out.2.2.2.2.size)
  have hzs : zs.length ≤ 192 := by have := HP.out.2.1; omega
  obtain ⟨v1, w2, hrun, hR1, hg1, hat⟩ := run_app_row (P := Tryz.prog) (W := w1) (ok := fun _ => True) (t := 25) (e := 5) (ty := 25) (c := d) .u8 Tryz.underlying25 infoB (by decide) hR (Kd.C_below HP.out.2.2.1 hb1) (fun _ _ => trivial) hb.size (by rw [HP.out.2.2.2.1]; omega)
  rw [HP.out.2.2.2.1] at hrun
  have hb2 : Below w.heap.size w w2 := hb1.grown hg1 hb1.size (fun q e => Nat.le_trans HP.out.2.2.2.2.size (Kd.R_base hR q e))
  obtain ⟨A1, c1, rfl, hc1, hC1⟩ := Kd.R_reads hR1
  obtain ⟨A0, c0, rfl⟩ := Kd.R_slice hR
  have hraw := penRaw_call w2 g xs (zs ++ ys) (HP.out.1.below hb2) A1 c1 hC1 hc1 (by rw [List.length_append]; exact HP.out.2.1)
  obtain ⟨L, hL⟩ : ∃ L, (zs ++ ys).length = L := ⟨_, rfl⟩
  rw [hL] at hraw hrun
  have HR := Lib.hid (And.intro hraw (PenK.of_below hb2 (Nat.le_of_lt hgl)))
  clear hput hR hb hb1 hb2 hraw hC1 hR1 hg1 hat hL hc1
  go_wp2_with (at_builtin; refine run_app (.tmp 10) (.tmp 11) 25 rfl rfl hrun ?_)
  refine HR.out.1.mono ?_
  rintro e w3 ⟨rfl, h1, h2⟩
  have HF := Lib.hid (And.intro h1 (HR.out.2.trans h2))
  clear h1 h2 HR
  go_wp2_with (fail)
  go_ret
  exact ⟨rfl, HF.out.1, HF.out.2⟩
end Go.Proofs.YtgdlpgakhhebeaaGreatDoor
end
section
set_option linter.unusedVariables false
set_option linter.unusedSimpArgs false
namespace Go.Proofs.YtgdlpgakhhebeaaGreatDoor
open Go.RowKit Go.Proofs.YtgdlpgakhhebeaaGreatDoorW.PrintWords Go.Proofs.YtgdlpgakhhebeaaGreatDoorW.PrintMore
attribute [local go_sem] Oper.semAt_some
attribute [local go_sem] max2_int min2_int max_two min_two max_three min_three max_four min_four

def zig (a : Int) : Int := (P.varint_Zig.f a).getD 0
theorem zig_some (a : Int) : P.varint_Zig.f a = some (zig a) := rfl
theorem infoU64 : (Tryz.prog.info? 35).map (fun i => (i.zero, i.size, i.bytes)) = some (some (.int .u64 0), 1, 8) := by kernel_rfl

set_option maxRecDepth 100000 in
set_option maxHeartbeats 1000000 in
theorem penSigned_call (w : World) (g : Nat) (xs ys l : List Int) (k : Nat) (hp : PenS w g xs) (ad : Addr) (d : Nat) (hr : Kd.C (Kd.int .i64) w (some ad) l.length l) (hd : l.length ≤ d) (hll : l.length ≤ 1000) (hf : P.varint_Put.f k (l.map zig) = some ys) (hl : xs.length + ys.length ≤ 192) :
    Calls Tryz.prog 142 #[.pointer (some ⟨g, 0, none⟩), .slice (some ad) l.length d] w fun e w' => e = .returned (.int .i64 0) ∧ PenS w' g (xs ++ ys) ∧ PenK g w w' := by
  have hgl := hp.lt
  obtain ⟨n, hn⟩ : ∃ n, l.length = n := ⟨_, rfl⟩
  have HP := Lib.hid (And.intro hp (And.intro hl (And.intro hr (And.intro hn hf))))
  rw [hn] at hd hll ⊢
  clear hr hp hf hl hn
  go_enter Tryz.func142, Tryz.ntmps142
  go_wp2_with (fail)
  go_loopw [5, 10] (fun o i wr => ∃ (j : Nat) (A : Option Addr) (c : Nat), i = .int .i64 (j : Int) ∧ j ≤ n ∧ o = .slice A j c ∧ Hid (Kd.R (Kd.int .u64) 35 wr w.heap.size (fun _ => True) (.slice A j c) ((l.take j).map zig)) ∧ Hid (Below w.heap.size w wr))
    (fun _ i _ => n - (intV i).toNat)
  case atStart => exact ⟨0, none, 0, rfl, Nat.zero_le _, rfl, Lib.hid (Kd.R_nil _ _ _ _ _), Lib.hid (Below.refl _ _)⟩
  case round =>
    obtain ⟨j, A, c, rfl, hj, rfl, HO, HB⟩ := hrel
    by_cases hlt : j < n
    · have hjl : j < l.length := by have := HP.out.2.2.2.1; omega
      obtain ⟨ad', e', hcell⟩ := Kd.at_int (Kd.C_below HP.out.2.2.1 HB.out) (j : Int) (by omega) (by omega)
      cases e'
      rw [Int.toNat_natCast] at hcell
      have hrd : rd l (j : Int) = l[j] := by simp [rd, List.getD_eq_getElem?_getD, List.getElem?_eq_getElem hjl]
      have htk : (l.take (j + 1)).map zig = (l.take j).map zig ++ [zig (rd l (j : Int))] := by rw [List.take_succ_eq_append_getElem hjl, hrd, List.map_append]; rfl
      have HTK := Lib.hid htk
      have hzg := P.varint_Zig.calls (rd l (j : Int)) (zig (rd l (j : Int))) wr (zig_some _)
      generalize rd l (j : Int) = a at *
      clear hrd htk
      go_wp2_with (fail)
      refine hzg.mono ?_
      rintro e w1 ⟨rfl, hb⟩
      have hb := hb.below
      have HB1 := Lib.hid (HB.out.trans (hb.mono HB.out.size))
      have hR1 := Kd.R_below HO.out hb
      have hjt : ((l.take j).map zig).length = j := by rw [List.length_map, List.length_take]; omega
      obtain ⟨v2, w2, hrun, hR2, hg2, hat⟩ := run_app_one (P := Tryz.prog) (W := w1) (t := 382) (e := 35) (ty := 382) (ok := fun _ => True) (okp := fun _ => False) (p := zig a) (cs := [.int .u64 (zig a)]) (Kd.int .u64) Tryz.underlying382 infoU64 rfl (by decide) (by decide) hR1 rfl (fun _ h => h.elim) (fun _ _ => trivial) HB1.out.size (by rw [hjt]; omega)
      obtain ⟨A2, c2, e2⟩ := Kd.R_slice hR2
      rw [List.length_append, List.length_singleton, hjt] at e2
      subst e2
      have HF := Lib.hid (And.intro (HB1.out.grown hg2 HB1.out.size (fun q e => Kd.R_base hR1 q e)) hR2)
      clear hzg hb hR1 hR2 hg2 hat hcell hjt
      go_wp2_with (at_builtin; refine run_app (.tmp 14) (.tmp 17) 382 rfl rfl hrun ?_)
      exact ⟨⟨j + 1, A2, c2, by simp, hlt, rfl, Lib.hid (by rw [HTK.out]; exact HF.out.2), Lib.hid HF.out.1⟩, by simp [intV]; omega⟩
    · obtain rfl : j = n := by omega
      have hlj : l.take j = l := by rw [List.take_of_length_le]; rw [HP.out.2.2.2.1]; exact Nat.le_refl _
      have hO := HO.out
      rw [hlj] at hO
      obtain ⟨A', c', e0, hc', hC⟩ := Kd.R_reads hO
      have hml : (l.map zig).length = j := by rw [List.length_map]; exact HP.out.2.2.2.1
      rw [hml] at e0 hc'
      obtain ⟨rfl, -, rfl⟩ : A = A' ∧ j = j ∧ c = c' := by simpa using e0
      have hnum := penNumber_call wr g xs ys (l.map zig) k (HP.out.1.below HB.out) A c hC (by rw [hml]; exact hc') HP.out.2.2.2.2 HP.out.2.1
      rw [hml] at hnum
      have HN := Lib.hid hnum
      clear hnum hC hO hlj hml e0
      go_wp2_with (fail)
      refine HN.out.mono ?_
      rintro e w2 ⟨rfl, h1, h2⟩
      have HF := Lib.hid (And.intro h1 ((PenK.of_below HB.out (Nat.le_of_lt hgl)).trans h2))
      clear h1 h2 HN
      go_wp2_with (fail)
      exact bodyPost_ret (v := .int .i64 0) (by simp [results, Tryz.results142, go_sem]) rfl ⟨rfl, HF.out.1, HF.out.2⟩
end Go.Proofs.YtgdlpgakhhebeaaGreatDoor
end
section
set_option linter.unusedVariables false
set_option linter.unusedSimpArgs false
namespace Go.Proofs.YtgdlpgakhhebeaaGreatDoor
open Go.RowKit Go.Proofs.YtgdlpgakhhebeaaGreatDoorW.PrintWords Go.Proofs.YtgdlpgakhhebeaaGreatDoorW.PrintMore

theorem put_l1 (x6 : List Int) (x7 x8 : Int) : ∀ (b : Nat) (n : Int) (k : Nat) (x3 : List Int), 0 ≤ n → n < 128 ^ (b + 1) → x3.length + b + 1 < 140737488355328 →
    ∃ k' bs, k ≤ k' ∧ k' ≤ k + b ∧ 1 ≤ bs.length ∧ bs.length ≤ b + 1 ∧ P.varint_Put.l1 (k + b + 1) x3 n x6 x7 x8 = P.varint_Put.l0 k' (x3 ++ bs) x6 x7 (wrap64 (x8 + 1))
  | 0, n, k, x3, h0, h1, hl => by
    have hn : ¬ n ≥ 128 := by simp at h1; omega
    refine ⟨k, [n % 256], Nat.le_refl _, Nat.le_refl _, by simp, by simp, ?_⟩
    rw [P.varint_Put.l1, if_neg hn, if_pos (by omega)]
  | b + 1, n, k, x3, h0, h1, hl => by
    by_cases hn : n ≥ 128
    · obtain ⟨k', bs, e1, e2, e3, e4, e5⟩ := put_l1 x6 x7 x8 b (n / 128) k (x3 ++ [Go.bits .or .u8 (n % 256) 128]) (by omega) (by rw [Int.pow_succ] at h1; omega) (by simp; omega)
      refine ⟨k', [Go.bits .or .u8 (n % 256) 128] ++ bs, e1, by omega, by simp, by simp; omega, ?_⟩
      rw [show k + (b + 1) + 1 = (k + b + 1) + 1 by omega, P.varint_Put.l1, if_pos hn, if_pos (by omega), e5, List.append_assoc]
    · refine ⟨k + (b + 1), [n % 256], by omega, by omega, by simp, by simp, ?_⟩
      rw [P.varint_Put.l1, if_neg hn, if_pos (by omega)]
theorem put_one (n : Int) (b : Nat) (h0 : 0 ≤ n) (h1 : n < 128 ^ (b + 1)) (hb : b ≤ 9) : ∃ bs, P.varint_Put.f 30 [n] = some bs ∧ 1 ≤ bs.length ∧ bs.length ≤ b + 1 := by
  obtain ⟨k', bs, e1, e2, e3, e4, e5⟩ := put_l1 [n] 1 0 b n (28 - b) [] h0 h1 (by simp; omega)
  refine ⟨bs, ?_, e3, e4⟩
  rw [show 28 - b + b + 1 = 29 by omega] at e5
  have hr : rd [n] 0 = n := rfl
  obtain ⟨q, rfl⟩ : ∃ q, k' = q + 1 := ⟨k' - 1, by omega⟩
  unfold P.varint_Put.f
  rw [P.varint_Put.l0, if_pos (by simp), if_pos (by simp), if_pos (by simp), hr]
  rw [show (([n] : List Int).length : Int) = 1 from rfl, e5, P.varint_Put.l0, if_neg (by unfold wrap64; omega)]
  rfl
theorem put_two (a c : Int) (b : Nat) (h0 : 0 ≤ a) (h1 : a < 128 ^ (b + 1)) (g0 : 0 ≤ c) (g1 : c < 128 ^ (b + 1)) (hb : b ≤ 9) : ∃ bs, P.varint_Put.f 30 [a, c] = some bs ∧ bs.length ≤ 2 * (b + 1) := by
  obtain ⟨k1, b1, e1, e2, e3, e4, e5⟩ := put_l1 [a, c] 2 0 b a (28 - b) [] h0 h1 (by simp; omega)
  rw [show 28 - b + b + 1 = 29 by omega] at e5
  obtain ⟨q, rfl⟩ : ∃ q, k1 = (q + b + 1) + 1 := ⟨k1 - b - 2, by omega⟩
  obtain ⟨k2, b2, d1, d2, d3, d4, d5⟩ := put_l1 [a, c] 2 1 b c q b1 g0 g1 (by omega)
  refine ⟨b1 ++ b2, ?_, by rw [List.length_append]; omega⟩
  have hr : rd [a, c] 0 = a := rfl
  have hr1 : rd [a, c] 1 = c := rfl
  have w1 : wrap64 (0 + 1) = 1 := by unfold wrap64; omega
  have w2 : wrap64 (1 + 1) = 2 := by unfold wrap64; omega
  obtain ⟨q2, rfl⟩ : ∃ q2, k2 = q2 + 1 := ⟨k2 - 1, by omega⟩
  unfold P.varint_Put.f
  rw [P.varint_Put.l0, if_pos (by simp), if_pos (by simp), if_pos (by simp), hr]
  rw [show (([a, c] : List Int).length : Int) = 2 from rfl, e5, w1, List.nil_append, P.varint_Put.l0, if_pos (by simp), if_pos (by simp), if_pos (by simp), hr1, d5, w2, P.varint_Put.l0, if_neg (by simp)]
end Go.Proofs.YtgdlpgakhhebeaaGreatDoor
end
section
set_option linter.unusedVariables false
set_option linter.unusedSimpArgs false
namespace Go.Proofs.YtgdlpgakhhebeaaGreatDoor
open Go.RowKit Go.Proofs.YtgdlpgakhhebeaaGreatDoorW.PrintWords Go.Proofs.YtgdlpgakhhebeaaGreatDoorW.PrintMore
attribute [local go_sem] Oper.semAt_some
attribute [local go_sem] max2_int min2_int max_two min_two max_three min_three max_four min_four

/-- One number's bytes. -/
def put1 (n : Int) : List Int := (P.varint_Put.f 30 [n]).getD []
theorem put1_some (n : Int) (b : Nat) (h0 : 0 ≤ n) (h1 : n < 128 ^ (b + 1)) (hb : b ≤ 9) : P.varint_Put.f 30 [n] = some (put1 n) ∧ 1 ≤ (put1 n).length ∧ (put1 n).length ≤ b + 1 := by
  obtain ⟨bs, e, h2, h3⟩ := put_one n b h0 h1 hb
  unfold put1
  rw [e]
  exact ⟨rfl, h2, h3⟩
/-- Cells' bytes behind a last one. -/
def clsB : Int → List Int → List Int
  | _, [] => []
  | la, c :: r => put1 (c - la - 1) ++ clsB c r
def inc : Int → List Int → Prop
  | _, [] => True
  | la, c :: r => la < c ∧ c ≤ 65535 ∧ inc c r
set_option maxRecDepth 100000 in
set_option maxHeartbeats 1000000 in
theorem cells_call (w0 w : World) (g : Nat) (hb0 : Below w0.heap.size w0 w) (hg0 : w0.heap.size ≤ g) (xs l : List Int) (hp : PenS w g xs) (B : Option Addr) (d : Nat) (hr : Kd.C (Kd.int .i64) w0 B l.length l) (hd : l.length ≤ d) (hll : l.length ≤ 32) (hi : inc (-1) l) (hl : (xs ++ put1 (l.length : Int) ++ clsB (-1) l).length ≤ 192) :
    Calls Tryz.prog 144 #[.pointer (some ⟨g, 0, none⟩), .slice B l.length d] w fun e w' => (∃ v, e = .returned v) ∧ PenS w' g (xs ++ put1 (l.length : Int) ++ clsB (-1) l) ∧ PenK g w w' := by
  have hgl := hp.lt
  have hpn := put1_some (l.length : Int) 1 (by omega) (by omega) (by omega)
  have bA : Below w.heap.size w (w.alloc (.cells #[.int .u64 (l.length : Int)] 35)) := (Below.refl _ w).alloc (Nat.le_refl _) _
  have hnum := penNumber_call (w.alloc (.cells #[.int .u64 (l.length : Int)] 35)) g xs (put1 (l.length : Int)) [(l.length : Int)] 30 (hp.below bA) (some ⟨w.heap.size, 0, none⟩) 1 (C_block .u64 [(l.length : Int)] (World.alloc_heap_new w _) (by simp)) (by simp) hpn.1 (by rw [List.length_append] at hl; rw [List.length_append] at hl; omega)
  obtain ⟨tot, htot⟩ : ∃ tot, xs ++ put1 (l.length : Int) ++ clsB (-1) l = tot := ⟨_, rfl⟩
  obtain ⟨st, hst⟩ : ∃ st, xs ++ put1 (l.length : Int) = st := ⟨_, rfl⟩
  rw [hst] at hnum htot
  rw [hst, htot] at hl
  rw [hst, htot]
  obtain ⟨n, hn⟩ : ∃ n, l.length = n := ⟨_, rfl⟩
  have hKA := PenK.of_below bA (Nat.le_of_lt hgl)
  rw [hn] at hKA
  have HP := Lib.hid (And.intro hl (And.intro hr (And.intro hn (And.intro hi (And.intro htot hKA)))))
  rw [hn] at hnum hd hll ⊢
  have HNUM := Lib.hid hnum
  have e1 : ((n : Int) % 18446744073709551616) = (n : Int) := by omega
  clear hr hp hl hn hst htot hi hpn bA hnum hKA
  go_enter Tryz.func144, Tryz.ntmps144
  go_wp2_with (fail)
  refine HNUM.out.mono ?_
  rintro e w2 ⟨rfl, h1, h2⟩
  have H2 := Lib.hid (And.intro h1 (HP.out.2.2.2.2.2.trans h2))
  clear h1 h2 HNUM
  go_wp2_with (fail)
  go_loopw [4, 15] (fun la i wr => ∃ (j : Nat) (x : Int) (ys : List Int), la = .int .i64 x ∧ i = .int .i64 (j : Int) ∧ j ≤ n ∧ (-1 ≤ x ∧ x ≤ 65535) ∧ Hid (PenS wr g ys ∧ ys ++ clsB x (l.drop j) = tot ∧ inc x (l.drop j) ∧ PenK g w wr))
    (fun _ i _ => n - (intV i).toNat)
  case atStart => exact ⟨0, -1, st, rfl, rfl, Nat.zero_le _, by omega, Lib.hid ⟨H2.out.1, HP.out.2.2.2.2.1, HP.out.2.2.2.1, H2.out.2⟩⟩
  case round =>
    obtain ⟨j, x, ys, rfl, rfl, hj, hx, HJ⟩ := hrel
    by_cases hlt : j < n
    · have hjl : j < l.length := by have := HP.out.2.2.1; omega
      have hbr : Below w0.heap.size w0 wr := hb0.trans (HJ.out.2.2.2.below.mono hg0)
      obtain ⟨ad, rfl, hcell⟩ := Kd.at_int (Kd.C_below HP.out.2.1 hbr) (j : Int) (by omega) (by omega)
      rw [Int.toNat_natCast] at hcell
      have hrd : rd l (j : Int) = l[j] := by simp [rd, List.getD_eq_getElem?_getD, List.getElem?_eq_getElem hjl]
      obtain ⟨h1, h2, h3, h4⟩ := HJ.out
      rw [List.drop_eq_getElem_cons hjl, ← hrd] at h2 h3
      generalize rd l (j : Int) = c at *
      obtain ⟨i1, i2, i3⟩ := h3
      have hpn := put1_some (c - x - 1) 2 (by omega) (by omega) (by omega)
      have bA : Below wr.heap.size wr (wr.alloc (.cells #[.int .u64 (c - x - 1)] 35)) := (Below.refl _ wr).alloc (Nat.le_refl _) _
      have hle : (ys ++ put1 (c - x - 1)).length ≤ 192 := by
        have h5 := HP.out.1
        rw [← h2] at h5
        simp only [clsB, List.length_append] at h5 ⊢
        omega
      have hnum := penNumber_call (wr.alloc (.cells #[.int .u64 (c - x - 1)] 35)) g ys (put1 (c - x - 1)) [c - x - 1] 30 (h1.below bA) (some ⟨wr.heap.size, 0, none⟩) 1 (C_block .u64 [c - x - 1] (World.alloc_heap_new wr _) (by simp)) (by simp) hpn.1 (by rw [List.length_append] at hle; exact hle)
      have e2 : wrap64 (c - x) = c - x := by unfold wrap64; omega
      have e3 : wrap64 (c - x - 1) = c - x - 1 := by unfold wrap64; omega
      have e4 : (c - x - 1) % 18446744073709551616 = c - x - 1 := by omega
      have HN := Lib.hid (And.intro hnum (And.intro (h4.trans (PenK.of_below bA (Nat.le_of_lt h1.lt))) (And.intro h2 i3)))
      clear hnum h1 h2 h4 hpn bA hle hbr hrd HJ H2 i3
      go_wp2_with (fail)
      refine HN.out.1.mono ?_
      rintro e w3 ⟨rfl, k1, k2⟩
      have HK := Lib.hid (And.intro k1 (HN.out.2.1.trans k2))
      clear k1 k2
      go_wp2_with (fail)
      exact ⟨⟨j + 1, c, ys ++ put1 (c - x - 1), rfl, by simp, hlt, by omega, Lib.hid ⟨HK.out.1, by rw [← HN.out.2.2.1]; simp [clsB], HN.out.2.2.2, HK.out.2⟩⟩, by simp [intV]; omega⟩
    · obtain rfl : j = n := by omega
      have hdl : l.drop j = [] := List.drop_eq_nil_of_le (by rw [HP.out.2.2.1]; exact Nat.le_refl _)
      have hfin := HJ.out
      rw [hdl] at hfin
      have htt : ys = tot := by have := hfin.2.1; simpa [clsB] using this
      have HF := Lib.hid (And.intro (htt ▸ hfin.1) hfin.2.2.2)
      clear hfin hdl HJ H2 hlt
      go_wp2_with (fail)
      exact bodyPost_end (results_none rfl _ _ _) rfl ⟨⟨_, rfl⟩, HF.out.1, HF.out.2⟩
end Go.Proofs.YtgdlpgakhhebeaaGreatDoor
end
section
set_option linter.unusedVariables false
set_option linter.unusedSimpArgs false
namespace Go.Proofs.YtgdlpgakhhebeaaGreatDoor
open Go.RowKit

theorem zig_pos (a : Int) (h0 : 0 ≤ a) (h1 : a ≤ 100000000) : zig a = 2 * a := by
  have e1 : IntKind.u64.wrap a = a := by simp [IntKind.wrap, IntKind.signed, IntKind.bits]; omega
  have e2 : IntKind.u64.wrap (a * 2) = a * 2 := by simp [IntKind.wrap, IntKind.signed, IntKind.bits]; omega
  have e3 : a / 9223372036854775808 = 0 := by omega
  have e4 : IntKind.u64.wrap 0 = 0 := by simp [IntKind.wrap, IntKind.signed, IntKind.bits]
  show Go.bits .xor .u64 (IntKind.u64.wrap ((IntKind.u64.wrap a) * 2)) (IntKind.u64.wrap (a / 9223372036854775808)) = 2 * a
  rw [e1, e2, e3, e4]
  obtain ⟨x, hx⟩ : ∃ x : Nat, a * 2 = (x : Int) := ⟨(a * 2).toNat, by omega⟩
  rw [hx, show (0 : Int) = ((0 : Nat) : Int) from rfl, Go.bits_xor_u64_nat x 0 (by omega) (by decide), Nat.xor_zero]
  omega
theorem zig_neg (a : Int) (h0 : a < 0) (h1 : -100000000 ≤ a) : zig a = -2 * a - 1 := by
  have e3 : a / 9223372036854775808 = -1 := by omega
  have e1 : IntKind.u64.wrap (-1) = 18446744073709551615 := by simp [IntKind.wrap, IntKind.signed, IntKind.bits]
  have e2 : IntKind.u64.wrap ((IntKind.u64.wrap a) * 2) = 18446744073709551616 + 2 * a := by simp [IntKind.wrap, IntKind.signed, IntKind.bits]; omega
  show Go.bits .xor .u64 (IntKind.u64.wrap ((IntKind.u64.wrap a) * 2)) (IntKind.u64.wrap (a / 9223372036854775808)) = -2 * a - 1
  rw [e2, e3, e1]
  obtain ⟨x, hx⟩ : ∃ x : Nat, (18446744073709551616 + 2 * a : Int) = (x : Int) := ⟨(18446744073709551616 + 2 * a).toNat, by omega⟩
  rw [hx, show (18446744073709551615 : Int) = ((2 ^ 64 - 1 : Nat) : Int) from by decide, Go.bits_xor_u64_nat x _ (by omega) (by decide), Nat.xor_comm, Go.Lib.xor_ones64 x (by omega)]
  omega
end Go.Proofs.YtgdlpgakhhebeaaGreatDoor
end
section
set_option linter.unusedVariables false
set_option linter.unusedSimpArgs false
namespace Go.Proofs.YtgdlpgakhhebeaaGreatDoor
open Go.RowKit Go.Proofs.YtgdlpgakhhebeaaGreatDoorW.PrintWords Go.Proofs.YtgdlpgakhhebeaaGreatDoorW.PrintMore
attribute [local go_sem] Oper.semAt_some
attribute [local go_sem] max2_int min2_int max_two min_two max_three min_three max_four min_four

/-- Two signed numbers' bytes. -/
def put2 (a c : Int) : List Int := (P.varint_Put.f 30 [zig a, zig c]).getD []
theorem zig_small (a : Int) (h : -2000000 ≤ a ∧ a ≤ 2000000) : 0 ≤ zig a ∧ zig a < 128 ^ 4 := by
  by_cases h0 : 0 ≤ a
  · rw [zig_pos a h0 (by omega)]; omega
  · rw [zig_neg a (by omega) (by omega)]; omega
theorem put2_some (a c : Int) (ha : -2000000 ≤ a ∧ a ≤ 2000000) (hc : -2000000 ≤ c ∧ c ≤ 2000000) : P.varint_Put.f 30 [zig a, zig c] = some (put2 a c) ∧ (put2 a c).length ≤ 8 := by
  obtain ⟨bs, e, h2⟩ := put_two (zig a) (zig c) 3 (zig_small a ha).1 (zig_small a ha).2 (zig_small c hc).1 (zig_small c hc).2 (by omega)
  unfold put2
  rw [e]
  exact ⟨rfl, h2⟩
def inR (x : P.S217) : Prop := (-1000000 ≤ x.f0 ∧ x.f0 ≤ 1000000) ∧ (-1000000 ≤ x.f1 ∧ x.f1 ≤ 1000000)
/-- A path's bytes behind a last point. -/
def ptsB : Int → Int → List P.S217 → List Int
  | _, _, [] => []
  | x, y, p :: r => put2 (p.f0 - x) (p.f1 - y) ++ ptsB p.f0 p.f1 r
theorem ptsB_len : ∀ (l : List P.S217) (x y : Int), (-1000000 ≤ x ∧ x ≤ 1000000) → (-1000000 ≤ y ∧ y ≤ 1000000) → (∀ p ∈ l, inR p) → (ptsB x y l).length ≤ 8 * l.length
  | [], _, _, _, _, _ => by simp [ptsB]
  | p :: r, x, y, hx, hy, h => by
    have hp := h p (by simp)
    have h1 := (put2_some (p.f0 - x) (p.f1 - y) (by have := hp.1; omega) (by have := hp.2; omega)).2
    have h2 := ptsB_len r p.f0 p.f1 hp.1 hp.2 (fun q hq => h q (by simp [hq]))
    simp only [ptsB, List.length_append, List.length_cons]
    omega
theorem clsB_len : ∀ (l : List Int) (x : Int), -1 ≤ x → inc x l → (clsB x l).length ≤ 3 * l.length
  | [], _, _, _ => by simp [clsB]
  | c :: r, x, hx, ⟨h1, h2, h3⟩ => by
    have e1 := (put1_some (c - x - 1) 2 (by omega) (by omega) (by omega)).2.2
    have e2 := clsB_len r c (by omega) h3
    simp only [clsB, List.length_append, List.length_cons]
    omega
end Go.Proofs.YtgdlpgakhhebeaaGreatDoor
end
section
set_option linter.unusedVariables false
set_option linter.unusedSimpArgs false
namespace Go.Proofs.YtgdlpgakhhebeaaGreatDoor
open Go.RowKit Go.Proofs.YtgdlpgakhhebeaaGreatDoorW.PrintWords Go.Proofs.YtgdlpgakhhebeaaGreatDoorW.PrintMore
attribute [local go_sem] Oper.semAt_some
attribute [local go_sem] max2_int min2_int max_two min_two max_three min_three max_four min_four

theorem PenS.set {W : World} {g lb o t : Nat} {xs : List Int} {cs : Array Value} (h : PenS W g xs) (hne : lb ≠ g) (hb : W.heap[lb]? = some (.cells cs t)) (ht : t ≠ 5) (v : Value) : PenS (W.setCell ⟨lb, o, none⟩ v) g xs := by
  obtain ⟨A, c, h1, h2⟩ := h
  refine ⟨A, c, (Below.heap_setCell W ⟨lb, o, none⟩ v g (fun e => hne e.symm)).trans h1, Kd.R_mono (Kd.R_move (Kd.R_bound h2) (fun k hk => Below.heap_setCell W ⟨lb, o, none⟩ v k (fun e => ?_))) (fun _ _ => trivial)⟩
  obtain ⟨_, _, _, q, hq, cells, hc⟩ := hk
  have e : k = lb := e
  rw [e, hb] at hc
  injection hc with hc
  injection hc with _ hc _
  rw [← hc] at hq
  simp [Kd.int, Kd.scalar] at hq
  exact ht hq
theorem PenK.set {g lb o : Nat} {w w3 : World} (h : PenK g w w3) (hlb : w.heap.size ≤ lb) (hg : g ≤ lb) (v : Value) : PenK g w (w3.setCell ⟨lb, o, none⟩ v) :=
  ⟨h.below.setCell (p := ⟨lb, o, none⟩) hg _, fun k cs t hk h5 hkg => (Below.heap_setCell w3 ⟨lb, o, none⟩ v k (by have := (Array.getElem?_eq_some_iff.1 hk).1; show k ≠ lb; omega)).trans (h.same k cs t hk h5 hkg)⟩
set_option maxRecDepth 100000 in
set_option maxHeartbeats 1000000 in
theorem points_call (w0 w : World) (g : Nat) (hb0 : Below w0.heap.size w0 w) (hg0 : w0.heap.size ≤ g) (xs : List Int) (l : List P.S217) (hp : PenS w g xs) (B : Option Addr) (d : Nat) (hr : Kd.C P.k217 w0 B l.length l) (hd : l.length ≤ d) (hll : l.length ≤ 16) (hi : ∀ p ∈ l, inR p) (hl : (xs ++ put1 (l.length : Int) ++ ptsB 0 0 l).length ≤ 192) :
    Calls Tryz.prog 143 #[.pointer (some ⟨g, 0, none⟩), .slice B l.length d] w fun e w' => (∃ v, e = .returned v) ∧ PenS w' g (xs ++ put1 (l.length : Int) ++ ptsB 0 0 l) ∧ PenK g w w' := by
  have hgl := hp.lt
  have hpn := put1_some (l.length : Int) 1 (by omega) (by omega) (by omega)
  have bA : Below w.heap.size w (w.alloc (.cells #[.int .u64 (l.length : Int)] 35)) := (Below.refl _ w).alloc (Nat.le_refl _) _
  have hnum := penNumber_call (w.alloc (.cells #[.int .u64 (l.length : Int)] 35)) g xs (put1 (l.length : Int)) [(l.length : Int)] 30 (hp.below bA) (some ⟨w.heap.size, 0, none⟩) 1 (C_block .u64 [(l.length : Int)] (World.alloc_heap_new w _) (by simp)) (by simp) hpn.1 (by rw [List.length_append] at hl; rw [List.length_append] at hl; omega)
  obtain ⟨tot, htot⟩ : ∃ tot, xs ++ put1 (l.length : Int) ++ ptsB 0 0 l = tot := ⟨_, rfl⟩
  obtain ⟨st, hst⟩ : ∃ st, xs ++ put1 (l.length : Int) = st := ⟨_, rfl⟩
  rw [hst] at hnum htot
  rw [hst, htot] at hl
  rw [hst, htot]
  obtain ⟨n, hn⟩ : ∃ n, l.length = n := ⟨_, rfl⟩
  have hKA := PenK.of_below bA (Nat.le_of_lt hgl)
  rw [hn] at hKA
  have HP := Lib.hid (And.intro hl (And.intro hr (And.intro hn (And.intro hi (And.intro htot hKA)))))
  rw [hn] at hnum hd hll ⊢
  have HNUM := Lib.hid hnum
  have e1 : ((n : Int) % 18446744073709551616) = (n : Int) := by omega
  clear hr hp hl hn hst htot hi hpn bA hnum hKA
  go_enter Tryz.func143, Tryz.ntmps143
  go_wp2_with (fail)
  refine HNUM.out.mono ?_
  rintro e w2 ⟨rfl, h1, h2⟩
  have hK2 := HP.out.2.2.2.2.2.trans h2
  have bB : Below w2.heap.size w2 (w2.alloc (.cells #[.int .i64 0, .int .i64 0] 217)) := (Below.refl _ w2).alloc (Nat.le_refl _) _
  have hgl2 := h1.lt
  have hw2 : w.heap.size ≤ w2.heap.size := hK2.below.size
  have H2 := Lib.hid (And.intro (h1.below bB) (And.intro (hK2.trans (PenK.of_below bB (Nat.le_of_lt hgl2))) (World.alloc_heap_new w2 (.cells #[.int .i64 0, .int .i64 0] 217))))
  clear h1 h2 HNUM hK2 bB
  go_wp2_with (fail)
  obtain ⟨lb, hlb⟩ : ∃ lb, w2.heap.size = lb := ⟨_, rfl⟩
  rw [hlb] at hw2 hgl2
  have HLB := Lib.hid hlb
  rw [hlb]
  clear hlb
  go_loopw [6, 15] (fun xb i wr => ∃ (j : Nat) (x y : Int) (ys : List Int), i = .int .i64 (j : Int) ∧ j ≤ n ∧ (-1000000 ≤ x ∧ x ≤ 1000000) ∧ (-1000000 ≤ y ∧ y ≤ 1000000) ∧ Hid (wr.heap[lb]? = some (.cells #[.int .i64 x, .int .i64 y] 217) ∧ PenS wr g ys ∧ ys ++ ptsB x y (l.drop j) = tot ∧ PenK g w wr))
    (fun _ i _ => n - (intV i).toNat)
  case atStart => exact ⟨0, 0, 0, st, rfl, Nat.zero_le _, by omega, by omega, Lib.hid ⟨by rw [← HLB.out]; exact H2.out.2.2, H2.out.1, HP.out.2.2.2.2.1, H2.out.2.1⟩⟩
  case round =>
    obtain ⟨j, x, y, ys, rfl, hj, hx, hy, HJ⟩ := hrel
    by_cases hlt : j < n
    · have hjl : j < l.length := by have := HP.out.2.2.1; omega
      obtain ⟨h0, h1, h2, h4⟩ := HJ.out
      have hbr : Below w0.heap.size w0 wr := hb0.trans (h4.below.mono hg0)
      obtain ⟨ad, rfl, hc0, hc1⟩ := P.at_T217 (Kd.C_below HP.out.2.1 hbr) (j : Int) (by omega) (by omega)
      rw [Int.toNat_natCast] at hc0 hc1
      have hrd : P.rd_T217 l (j : Int) = l[j] := by simp [P.rd_T217, List.getD_eq_getElem?_getD, List.getElem?_eq_getElem hjl]
      have hpr := HP.out.2.2.2.1 l[j] (List.getElem_mem hjl)
      rw [List.drop_eq_getElem_cons hjl, ← hrd] at h2
      rw [← hrd] at hpr
      generalize P.rd_T217 l (j : Int) = p at *
      obtain ⟨p0, p1⟩ := p
      simp only at hc0 hc1
      obtain ⟨⟨i1, i2⟩, ⟨i3, i4⟩⟩ := hpr
      simp only at i1 i2 i3 i4
      have hpn := put2_some (p0 - x) (p1 - y) (by omega) (by omega)
      have bA : Below wr.heap.size wr ((wr.alloc (.cells #[.int .i64 p0, .int .i64 p1] 217)).alloc (.cells #[.int .i64 (p0 - x), .int .i64 (p1 - y)] 2)) := ((Below.refl _ wr).alloc (Nat.le_refl _) _).alloc (by simp) _
      have hle : (ys ++ put2 (p0 - x) (p1 - y)).length ≤ 192 := by
        have h5 := HP.out.1
        rw [← h2] at h5
        simp only [ptsB, List.length_append] at h5 ⊢
        omega
      have hnb : ((wr.alloc (.cells #[.int .i64 p0, .int .i64 p1] 217)).alloc (.cells #[.int .i64 (p0 - x), .int .i64 (p1 - y)] 2)).heap[wr.heap.size + 1]? = some (.cells #[.int .i64 (p0 - x), .int .i64 (p1 - y)] 2) := by
        have := World.alloc_heap_new (wr.alloc (.cells #[.int .i64 p0, .int .i64 p1] 217)) (.cells #[.int .i64 (p0 - x), .int .i64 (p1 - y)] 2)
        rwa [World.size_alloc] at this
      have hxb : ((wr.alloc (.cells #[.int .i64 p0, .int .i64 p1] 217)).alloc (.cells #[.int .i64 (p0 - x), .int .i64 (p1 - y)] 2)).heap[wr.heap.size]? = some (.cells #[.int .i64 p0, .int .i64 p1] 217) := (Below.heap_alloc _ _ _ (by simp)).trans (World.alloc_heap_new wr _)
      have hsg := penSigned_call ((wr.alloc (.cells #[.int .i64 p0, .int .i64 p1] 217)).alloc (.cells #[.int .i64 (p0 - x), .int .i64 (p1 - y)] 2)) g ys (put2 (p0 - x) (p1 - y)) [p0 - x, p1 - y] 30 (h1.below bA) ⟨wr.heap.size + 1, 0, none⟩ 2 (C_block .i64 [p0 - x, p1 - y] hnb (by simp)) (by simp) (by simp) hpn.1 (by rw [List.length_append] at hle; exact hle)
      have e2 : wrap64 (p0 - x) = p0 - x := by unfold wrap64; omega
      have e3 : wrap64 (p1 - y) = p1 - y := by unfold wrap64; omega
      have hKr := h4.trans (PenK.of_below bA (Nat.le_of_lt h1.lt))
      have hlx := (bA.block lb (Array.getElem?_eq_some_iff.1 h0).1).trans h0
      have l0 : wr.cell? ⟨lb, 0, none⟩ = some (.int .i64 x) := cell_at h0 rfl
      have l1 : wr.cell? ⟨lb, 1, none⟩ = some (.int .i64 y) := cell_at h0 rfl
      have l0' := cell_al l0 (.cells #[.int .i64 p0, .int .i64 p1] 217)
      have l1' := cell_al l1 (.cells #[.int .i64 p0, .int .i64 p1] 217)
      have hgr : g < wr.heap.size := h1.lt
      have HN := Lib.hid (And.intro hsg (And.intro hKr (And.intro h2 (And.intro hxb hlx))))
      clear hsg h0 h1 h2 h4 hpn bA hle hbr hrd HJ H2 hnb hxb hKr hlx
      go_wp2_with (fail)
      refine HN.out.1.mono ?_
      rintro e w3 ⟨rfl, k1, k2⟩
      have hx3 := k2.same _ _ _ HN.out.2.2.2.1 (by decide) (by omega)
      have hl3 := k2.same _ _ _ HN.out.2.2.2.2 (by decide) (by omega)
      have HK := Lib.hid (And.intro k1 (And.intro (HN.out.2.1.trans k2) hl3))
      have m0 : w3.cell? ⟨wr.heap.size, 0, none⟩ = some (.int .i64 p0) := cell_at hx3 rfl
      have m1 : w3.cell? ⟨wr.heap.size, 1, none⟩ = some (.int .i64 p1) := cell_at hx3 rfl
      have n0 : w3.cell? ⟨lb, 0, none⟩ = some (.int .i64 x) := cell_at hl3 rfl
      have n1 : w3.cell? ⟨lb, 1, none⟩ = some (.int .i64 y) := cell_at hl3 rfl
      have f0 : w3.frozen? ⟨lb, 0, none⟩ = false := frozen_at hl3
      have f1 : w3.frozen? ⟨lb, 1, none⟩ = false := frozen_at hl3
      clear k1 k2 hx3 hl3
      go_wp2_with (fail)
      obtain ⟨a1, a2, a3⟩ := HK.out
      have hs1 := heap_setCell_at (j := 0) (v := .int .i64 p0) a3
      have hs2 := heap_setCell_at (j := 1) (v := .int .i64 p1) hs1
      refine ⟨⟨j + 1, p0, p1, ys ++ put2 (p0 - x) (p1 - y), rfl, hlt, ⟨i1, i2⟩, ⟨i3, i4⟩, Lib.hid ⟨hs2, (a1.set (by omega) a3 (by decide) _).set (by omega) hs1 (by decide) _, by rw [← HN.out.2.2.1]; simp [ptsB], (a2.set hw2 (by omega) _).set hw2 (by omega) _⟩⟩, by simp [intV]; omega⟩
    · obtain rfl : j = n := by omega
      have hdl : l.drop j = [] := List.drop_eq_nil_of_le (by rw [HP.out.2.2.1]; exact Nat.le_refl _)
      have hfin := HJ.out.2
      rw [hdl] at hfin
      have htt : ys = tot := by have := hfin.2.1; simpa [ptsB] using this
      have HF := Lib.hid (And.intro (htt ▸ hfin.1) hfin.2.2)
      clear hfin hdl HJ H2 hlt
      go_wp2_with (fail)
      exact bodyPost_end (results_none rfl _ _ _) rfl ⟨⟨_, rfl⟩, HF.out.1, HF.out.2⟩
end Go.Proofs.YtgdlpgakhhebeaaGreatDoor
end
