/- Part 10 of the proof of TopWire: Hed, Hby, Enc. -/
import Derived.ArgAppend
import Derived.Deep.RegionHeld3
import Derived.Deep.RegionLaw
import Derived.RegionTactic
import Derived.Test.YtgdlpgakhhebeaaGreatDoorMg09
section
set_option linter.unusedVariables false
set_option linter.unusedSimpArgs false
namespace Go.Proofs.YtgdlpgakhhebeaaGreatDoor
open Go.RowKit Go.Proofs.YtgdlpgakhhebeaaGreatDoorW.PrintWords Go.Proofs.YtgdlpgakhhebeaaGreatDoorW.PrintMore
attribute [local go_sem] Oper.semAt_some
attribute [local go_sem] max2_int min2_int max_two min_two max_three min_three max_four min_four

/-- A head. -/
structure Hd where
  v : Int
  k : Int
  s : Int
  i : Int
  n : Int
def Hd.cells (h : Hd) : Array Value := #[.int .i64 h.v, .int .i64 h.k, .int .u32 h.s, .int .i64 h.i, .int .i64 h.n]
def Hd.val (h : Hd) : Value := .agg h.cells
/-- A right one. -/
def Hd.ok (h : Hd) : Prop := (1 ≤ h.v ∧ h.v ≤ 2) ∧ (1 ≤ h.k ∧ h.k ≤ 5) ∧ (1 ≤ h.n ∧ h.n ≤ 255) ∧ (0 ≤ h.i ∧ h.i < h.n)

def WrgQ (k : Nat) (vs : Array Value) (T : Nat → Prop) (B : Nat) (W : World) : Prop := ∃ e : Int, vs = #[.int .i64 e, .bool false]

set_option maxRecDepth 100000 in
set_option maxHeartbeats 2000000 in
theorem wrong1 (w : World) (Bb : Nat) (h : Hd) (hok : h.ok) (hB : w.heap[Bb]? = some (.cells h.cells 131)) :
    Iter Tryz.prog 240 #[.pointer (some ⟨Bb, 0, none⟩)] 3 NoT (fun b => b = Bb) (fun _ => False) WrgQ (fun _ _ _ _ => True) w := by
  intro l' J Jx W hW hY h0
  have hBW : W.heap[Bb]? = some (.cells h.cells 131) := hW.same _ _ hB (.inl rfl)
  have HY := Lib.hid hY
  have HJ := Lib.hid h0
  clear hY h0 hB
  obtain ⟨v, k, s, i, n⟩ := h
  simp only [Hd.ok] at hok
  have c0 : W.cell? ⟨Bb, 0, none⟩ = some (.int .i64 v) := cell_at hBW rfl
  have c1 : W.cell? ⟨Bb, 1, none⟩ = some (.int .i64 k) := cell_at hBW rfl
  have c3 : W.cell? ⟨Bb, 3, none⟩ = some (.int .i64 i) := cell_at hBW rfl
  have c4 : W.cell? ⟨Bb, 4, none⟩ = some (.int .i64 n) := cell_at hBW rfl
  have t1 : (v < 1) = False := eq_false (by omega)
  have t2 : (2 < v) = False := eq_false (by omega)
  have t3 : (k < 1) = False := eq_false (by omega)
  have t4 : (5 < k) = False := eq_false (by omega)
  have t5 : (n < 1) = False := eq_false (by omega)
  have t6 : (255 < n) = False := eq_false (by omega)
  have t7 : (i < 0) = False := eq_false (by omega)
  have t8 : (n ≤ i) = False := eq_false (by omega)
  show Calls Tryz.prog 240 #[.func (.yield l') #[] #[], .pointer (some ⟨Bb, 0, none⟩)] W _
  go_enter Tryz.func240, Tryz.ntmps240
  obtain ⟨fn, tmps, assign, body, hy, hR⟩ := HY.out 0 (fun _ => False) (fun _ => False) W W #[.int .i64 10, .bool false] (by omega) HJ.out noT (fun _ h => h.elim) (fun _ h => h.elim) (Stab.refl _ _ _) ⟨_, rfl⟩
  have HR := Lib.hid hR
  clear hR hok
  go_upto_region 0 with (fail)
  refine (wpIn_wide (n := 5)).1 ?_
  gi_wp2
  refine (HR.out _).mono ?_
  rintro e W3 (⟨rfl, hJ3, hk3⟩ | ⟨rfl, hJ3, hk3⟩)
  · have hB3 : W3.heap[Bb]? = some (.cells (Hd.cells ⟨v, k, s, i, n⟩) 131) := hk3.same _ _ hBW (.inl rfl)
    have d1 : W3.cell? ⟨Bb, 1, none⟩ = some (.int .i64 k) := cell_at hB3 rfl
    obtain ⟨fn2, tmps2, assign2, body2, hy2, hR2⟩ := HY.out 1 (fun _ => False) (fun _ => False) W3 W3 #[.int .i64 9, .bool false] (by omega) hJ3 noT (fun _ h => h.elim) (fun _ h => h.elim) (Stab.refl _ _ _) ⟨_, rfl⟩
    have HR2 := Lib.hid hR2
    clear hR2 hy c0 c1 c3 c4 hk3
    gi_wp2
    refine (HR2.out _).mono ?_
    rintro e W4 (⟨rfl, hJ4, hk4⟩ | ⟨rfl, hJ4, hk4⟩)
    · have hB4 : W4.heap[Bb]? = some (.cells (Hd.cells ⟨v, k, s, i, n⟩) 131) := hk4.same _ _ hB3 (.inl rfl)
      have e3 : W4.cell? ⟨Bb, 3, none⟩ = some (.int .i64 i) := cell_at hB4 rfl
      have e4 : W4.cell? ⟨Bb, 4, none⟩ = some (.int .i64 n) := cell_at hB4 rfl
      obtain ⟨fn3, tmps3, assign3, body3, hy3, hR3⟩ := HY.out 2 (fun _ => False) (fun _ => False) W4 W4 #[.int .i64 3, .bool false] (by omega) hJ4 noT (fun _ h => h.elim) (fun _ h => h.elim) (Stab.refl _ _ _) ⟨_, rfl⟩
      have HR3 := Lib.hid hR3
      clear hR3 hy2 d1 hk4
      gi_wp2
      refine (HR3.out _).mono ?_
      rintro e W5 (⟨rfl, hJ5, hk5⟩ | ⟨rfl, hJ5, hk5⟩)
      · clear hy3 e3 e4 hk5
        gi_wp2
        go_wp2
        refine bodyPost_end (results_none rfl _ _ _) rfl ?_
        exact ⟨⟨_, rfl⟩, _, _, W5, 3, noT, fun _ h => .inl h, Stab.refl _ _ _, .inl ⟨rfl, hJ5, trivial⟩⟩
      · clear hy3 e3 e4 hk5
        gi_wp2
        go_wp2
        refine bodyPost_end (results_none rfl _ _ _) rfl ?_
        exact ⟨⟨_, rfl⟩, _, _, W5, 2, noT, fun _ h => .inl h, Stab.refl _ _ _, .inr ⟨by omega, hJ5, trivial⟩⟩
    · clear hy2 d1 hk4
      gi_wp2
      go_wp2
      refine bodyPost_end (results_none rfl _ _ _) rfl ?_
      exact ⟨⟨_, rfl⟩, _, _, W4, 1, noT, fun _ h => .inl h, Stab.refl _ _ _, .inr ⟨by omega, hJ4, trivial⟩⟩
  · clear hy c0 c1 c3 c4 hk3
    gi_wp2
    go_wp2
    refine bodyPost_end (results_none rfl _ _ _) rfl ?_
    exact ⟨⟨_, rfl⟩, _, _, W3, 0, noT, fun _ h => .inl h, Stab.refl _ _ _, .inr ⟨by omega, hJ3, trivial⟩⟩

theorem wrong_call (h : Hd) (w : World) : Calls Tryz.prog 187 #[h.val] w fun e w' => e = .returned (.func (.func 240) #[] #[.pointer (some ⟨w.heap.size, 0, none⟩)]) ∧ w.alloc (.cells h.cells 131) = w' := by
  obtain ⟨v, k, s, i, n⟩ := h
  simp only [Hd.val, Hd.cells]
  go_enter Tryz.func187, Tryz.ntmps187
  go_wp2
  go_ret
  exact ⟨rfl, rfl⟩

set_option maxRecDepth 100000 in
set_option maxHeartbeats 4000000 in
theorem headCheck_call (h : Hd) (hok : h.ok) (w : World) : Calls Tryz.prog 129 #[h.val] w fun e w' => e = .returned (.int .i64 0) ∧ Below w.heap.size w w' := by
  refine (callsIn_wide (n := 5)).1 (callsIn_of_wp_marks Tryz.func129 rfl trivial ?_ rfl)
  simp only [Tryz.ntmps129, List.size_toArray, List.length_cons, List.length_nil, Nat.reduceAdd, Nat.reduceSub, Array.replicate_succ, Array.replicate_zero, List.push_toArray, List.append_toArray, List.nil_append, List.cons_append]
  refine wpIn_wide.2 ?_
  have hw := wrong_call h
  have hw1 := wrong1
  obtain ⟨v, k, s, i, n⟩ := h
  simp only [Hd.val, Hd.cells] at hw ⊢
  go_wp2_with (fail)
  refine wp_scope_straight ?_
  go_wp2_with (fail)
  go_step3
  go_wp2_with (fail)
  refine (hw _).mono ?_
  rintro e wY ⟨rfl, rfl⟩
  clear hw
  have hbY : Below w.heap.size w (((w.alloc (.cells #[.int .i64 v, .int .i64 k, .int .u32 s, .int .i64 i, .int .i64 n] 131)).alloc (.cells #[.int .i64 0] 28)).alloc (.cells #[.int .i64 v, .int .i64 k, .int .u32 s, .int .i64 i, .int .i64 n] 131)) := (((Below.refl _ w).alloc (Nat.le_refl _) _).alloc (by simp) _).alloc (by simp; omega) _
  obtain ⟨Y, hY⟩ : ∃ Y, (((w.alloc (.cells #[.int .i64 v, .int .i64 k, .int .u32 s, .int .i64 i, .int .i64 n] 131)).alloc (.cells #[.int .i64 0] 28)).alloc (.cells #[.int .i64 v, .int .i64 k, .int .u32 s, .int .i64 i, .int .i64 n] 131)) = Y := ⟨_, rfl⟩
  have hsY : Y.heap.size = w.heap.size + 3 := by rw [← hY]; simp
  have bF : Boxed Y (w.heap.size + 1) 28 (.int .i64 0) := by
    rw [← hY]; have := (Boxed.new (w.alloc (.cells #[.int .i64 v, .int .i64 k, .int .u32 s, .int .i64 i, .int .i64 n] 131)) 28 (.int .i64 0)).alloc (.cells #[.int .i64 v, .int .i64 k, .int .u32 s, .int .i64 i, .int .i64 n] 131); rwa [World.size_alloc] at this
  have bH : Y.heap[w.heap.size + 2]? = some (.cells #[.int .i64 v, .int .i64 k, .int .u32 s, .int .i64 i, .int .i64 n] 131) := by
    rw [← hY]; have := World.alloc_heap_new ((w.alloc (.cells #[.int .i64 v, .int .i64 k, .int .u32 s, .int .i64 i, .int .i64 n] 131)).alloc (.cells #[.int .i64 0] 28)) (.cells #[.int .i64 v, .int .i64 k, .int .u32 s, .int .i64 i, .int .i64 n] 131); simpa using this
  have hit := hw1 Y (w.heap.size + 2) ⟨v, k, s, i, n⟩ hok bH
  rw [hY] at hbY
  simp only [World.size_alloc]
  rw [hY]
  clear hY hw1 bH
  go_wp2_with (fail)
  refine wp_range0 (gf := 240) (lb := #[.pointer (some ⟨w.heap.size + 2, 0, none⟩)]) rfl (enters_of Tryz.func240 (by kernel_rfl) rfl)
    hit (fun b hb => by omega) (fun k vs T B W h => by obtain ⟨e, rfl⟩ := h; rfl)
    (fun k W => Boxed W (w.heap.size + 1) 28 (.int .i64 0) ∧ Below w.heap.size w W) (fun _ _ _ => False) ?hI (fun _ _ _ _ h _ => h) ⟨bF, hbY⟩ ?round ?done ?stop
  case hI =>
    rintro k W W' ⟨h1, h2⟩ hs
    exact ⟨boxed_stab h1 hs (fun h => h), hs.below h2 (by omega) h2.size (fun _ _ h => h)⟩
  case round =>
    rintro l n k T W0 X vs hk ⟨h1, h2⟩ hst ⟨e, rfl⟩ hR
    gi_wp2
    refine ⟨Below.refl _ _, fun W2 hs => ?_⟩
    have hs02 := hst.trans hs (fun b h => h.elim)
    have g1 := boxed_stab h1 hs02 (fun h => h)
    have g2 := hs02.below h2 (by omega) h2.size (fun _ _ h => h)
    clear h1 h2 hst hs hs02
    gi_wp2
    exact ⟨Keep.refl _ _, fun _ _ h _ => h, g1, g2⟩
  case done =>
    rintro D W ⟨h1, h2⟩ hD hd
    have hcb := h1.cell
    have HH := Lib.hid (And.intro h2 hd)
    clear h1 h2 hd
    go_wp2_with (fail)
    rw [Exit.noGoto_ret]
    refine marks_ret (v := .int .i64 0) (by simp [results, Tryz.results129, Act.put, go_sem]) (by simp [Act.put]) HH.out.2 ⟨rfl, ?_⟩
    exact (stab_shut (T := fun _ => False) (n := w.heap.size) HH.out.2 (by omega)).below HH.out.1 (Nat.le_refl _) HH.out.1.size (fun _ _ h => h)
  case stop =>
    rintro D c k W _ h
    exact h.elim
end Go.Proofs.YtgdlpgakhhebeaaGreatDoor
end
section
set_option linter.unusedVariables false
set_option linter.unusedSimpArgs false
namespace Go.Proofs.YtgdlpgakhhebeaaGreatDoor
open Go.RowKit Go.Proofs.YtgdlpgakhhebeaaGreatDoorW.PrintWords Go.Proofs.YtgdlpgakhhebeaaGreatDoorW.PrintMore
attribute [local go_sem] Oper.semAt_some
attribute [local go_sem] max2_int min2_int max_two min_two max_three min_three max_four min_four

theorem C_nums {k : IntKind} {W : World} {ad : Addr} {m : Nat} {ys : List Int} (HC : (Kd.int k).C W (some ad) m ys) : ∀ j u, (nums k ys)[j]? = some u → W.cell? (ad.add j) = some u := by
  intro j u hu
  have hj : j < ys.length := by
    have := (List.getElem?_eq_some_iff.1 hu).1
    rwa [nums_length] at this
  have hm := HC.1
  obtain ⟨ad', c', e', hc1, hc2, hc3⟩ := Kd.C_get HC 0 (j : Int) (by omega) (by omega)
  cases e'
  have e2 : c' = [Value.int k (ys.getD j 0)] := by simpa [Kd.int, Kd.scalar] using hc2
  subst e2
  have := hc3 0 _ rfl
  rw [show ((j : Int)).toNat * (Kd.int k).sz + 0 = j by simp [Kd.int, Kd.scalar]] at this
  rw [this, ← hu]
  simp [nums, List.getD_eq_getElem?_getD, List.getElem?_eq_getElem hj]

theorem run_app_grow {P : Program} {W : World} {t e ty : TypeId} {bytes : Nat} (k : IntKind) (ht : P.underlying t = some (.slice e)) (hinfo : (P.info? e).map (fun i => (i.zero, i.size, i.bytes)) = some (some (.int k 0), 1, bytes))
    {xs ys : List Int} {ad : Addr} {A : Option Addr} {c1 c : Nat} (H1 : (Kd.int k).C W (some ad) xs.length xs) (H2 : (Kd.int k).C W A ys.length ys) (hpos : 0 < ys.length) (hcap : c1 < xs.length + ys.length) (h63 : xs.length + ys.length ≤ maxLen) (hl : (xs.length + ys.length) * bytes ≤ 140737488355328) (ok : Nat → Prop) (hok : ∀ k, W.heap.size ≤ k → ok k) :
    ∃ v1 w1, (Builtin.append_ #[t, t] ty #[.slice (some ad) xs.length c1, .slice A ys.length c]).run P W = .ok v1 w1 ∧ (Kd.int k).R e w1 W.heap.size ok v1 (xs ++ ys) ∧ W.grownBy w1 none := by
  obtain ⟨i0, hi, hzz⟩ := Option.map_eq_some_iff.1 hinfo
  simp only [Prod.mk.injEq] at hzz
  obtain ⟨hz0, hz1, hz2⟩ := hzz
  obtain ⟨a2, rfl, _⟩ := H2.2.2 hpos
  obtain ⟨v1, w1, hrun, h1, hg⟩ := run_append_arg_grows (P := P) W t ty e i0 (.int k 0) 1 bytes ht hi hz0 hz1 hz2 rfl (by omega) ad xs.length c1 (nums k xs) (by rw [nums_length, Nat.mul_one]) (C_nums H1) a2 ys.length c (nums k ys) (by rw [nums_length, Nat.mul_one]) (C_nums H2) hcap h63 hl
  refine ⟨v1, w1, hrun, Kd.R_of_own ?_ (fun q hq => hok q ?_), hg⟩
  · rw [← nums_append, ← List.length_append] at h1
    exact h1
  · rcases h1.2 with ⟨rfl, _⟩ | ⟨b, cap, cur, rfl, hb, _⟩
    · cases hq
    · cases hq; exact hb

theorem C_block (k : IntKind) {W : World} {b t : Nat} (xs : List Int) (h : W.heap[b]? = some (.cells (xs.map (Value.int k)).toArray t)) (hn : xs.length ≤ 9223372036854775807) : (Kd.int k).C W (some ⟨b, 0, none⟩) xs.length xs :=
  C_lit k W b xs hn (fun j x hj => cell_at h (by simp [hj]))
/-- A head's bytes. -/
def Hd.bytes (h : Hd) : List Int := [h.v % 256, h.k % 256, h.s % 256, h.s / 256 % 256, h.s / 65536 % 256, h.s / 16777216 % 256, h.i % 256, h.n % 256]
set_option maxRecDepth 100000 in
set_option maxHeartbeats 4000000 in
theorem headBytes_call (h : Hd) (hok : h.ok) (w : World) : Calls Tryz.prog 133 #[h.val] w fun e w' => ∃ b : Nat, e = .returned (.tuple #[.slice (some ⟨b, 0, none⟩) 8 8, .int .i64 0]) ∧ Kd.C (Kd.int .u8) w' (some ⟨b, 0, none⟩) 8 h.bytes ∧ Below w.heap.size w w' := by
  have hch := headCheck_call h hok
  have hlb : h.bytes.length = 8 := rfl
  obtain ⟨v, k, s, i, n⟩ := h
  simp only [Hd.val, Hd.cells, Hd.bytes] at hch ⊢
  go_enter Tryz.func133, Tryz.ntmps133
  go_wp2_with (fail)
  refine (hch _).mono ?_
  rintro e w2 ⟨rfl, hb2⟩
  clear hch
  have hB : (w.alloc (.cells #[.int .i64 v, .int .i64 k, .int .u32 s, .int .i64 i, .int .i64 n] 131)).heap[w.heap.size]? = some (.cells #[.int .i64 v, .int .i64 k, .int .u32 s, .int .i64 i, .int .i64 n] 131) := World.alloc_heap_new w _
  have hB2 := (hb2.block w.heap.size (by simp)).trans hB
  have c0 : w2.cell? ⟨w.heap.size, 0, none⟩ = some (.int .i64 v) := cell_at hB2 rfl
  have c1 : w2.cell? ⟨w.heap.size, 1, none⟩ = some (.int .i64 k) := cell_at hB2 rfl
  have c2 : w2.cell? ⟨w.heap.size, 2, none⟩ = some (.int .u32 s) := cell_at hB2 rfl
  have c3 : w2.cell? ⟨w.heap.size, 3, none⟩ = some (.int .i64 i) := cell_at hB2 rfl
  have c4 : w2.cell? ⟨w.heap.size, 4, none⟩ = some (.int .i64 n) := cell_at hB2 rfl
  have HB := Lib.hid (((Below.refl _ w).alloc (Nat.le_refl _) _).trans (hb2.mono (by simp)))
  clear hb2 hB hB2
  go_wp2_with (fail)
  have hn := World.alloc_heap_new w2 (.cells #[.int .u8 (v % 256), .int .u8 (k % 256), .int .u8 (s % 256), .int .u8 (s / 256 % 256), .int .u8 (s / 65536 % 256), .int .u8 (s / 16777216 % 256), .int .u8 (i % 256), .int .u8 (n % 256)] 368)
  exact bodyPost_ret (v := .tuple #[.slice (some ⟨w2.heap.size, 0, none⟩) 8 8, .int .i64 0]) (by simp [results, Tryz.results133, go_sem]) rfl ⟨_, rfl, C_block .u8 [v % 256, k % 256, s % 256, s / 256 % 256, s / 65536 % 256, s / 16777216 % 256, i % 256, n % 256] hn (by simp), HB.out.alloc HB.out.size _⟩

/-- A frame's cells. -/
def Hd.frame (h : Hd) (x : Value) : Array Value := #[.int .i64 h.v, .int .i64 h.k, .int .u32 h.s, .int .i64 h.i, .int .i64 h.n, x]
/-- The codec check of a frame whose head is right. -/
theorem codecCheck_call (h : Hd) (hok : h.ok) (w : World) (p : Addr) (A : Option Addr) (m c : Nat) (h0 : 0 < m) (h1 : m ≤ 242) : Calls Tryz.prog 132 #[.pointer (some p), .agg (h.frame (.slice A m c))] w fun e w' => e = .returned (.int .i64 0) ∧ Below w.heap.size w w' := by
  have hch := headCheck_call h hok
  obtain ⟨v, k, s, i, n⟩ := h
  simp only [Hd.val, Hd.cells, Hd.frame] at hch ⊢
  go_enter Tryz.func132, Tryz.ntmps132
  go_wp2_with (fail)
  refine (hch _).mono ?_
  rintro e w2 ⟨rfl, hb2⟩
  clear hch
  have hB : (w.alloc (.cells #[.int .i64 v, .int .i64 k, .int .u32 s, .int .i64 i, .int .i64 n, .slice A m c] 133)).heap[w.heap.size]? = some (.cells #[.int .i64 v, .int .i64 k, .int .u32 s, .int .i64 i, .int .i64 n, .slice A m c] 133) := World.alloc_heap_new w _
  have hB2 := (hb2.block w.heap.size (by simp)).trans hB
  have c5 : w2.cell? ⟨w.heap.size, 5, none⟩ = some (.slice A m c) := cell_at hB2 rfl
  have HB := Lib.hid (((Below.refl _ w).alloc (Nat.le_refl _) _).trans (hb2.mono (by simp)))
  have t1 : ((m : Int) == 0) = false := by simp; omega
  have t2 : ((242 : Int) < (m : Int)) = False := eq_false (by omega)
  clear hb2 hB hB2
  go_wp2_with (fail)
  exact bodyPost_ret (v := .int .i64 0) (by simp [results, Tryz.results132, go_sem]) rfl ⟨rfl, HB.out⟩
end Go.Proofs.YtgdlpgakhhebeaaGreatDoor
end
section
set_option linter.unusedVariables false
set_option linter.unusedSimpArgs false
namespace Go.Proofs.YtgdlpgakhhebeaaGreatDoor
open Go.RowKit Go.Proofs.YtgdlpgakhhebeaaGreatDoorW.PrintWords Go.Proofs.YtgdlpgakhhebeaaGreatDoorW.PrintMore
attribute [local go_sem] Oper.semAt_some

/-- How many bytes blocks have, stuffed. -/
def szs : List (List Int) → Nat
  | [] => 0
  | x :: r => x.length + 1 + szs r
theorem szs_le : ∀ (a : List (List Int)), (∀ x ∈ a, x.length ≤ 254) → szs a ≤ 255 * a.length
  | [], _ => by simp [szs]
  | x :: r, h => by
    have h1 := h x (by simp)
    have h2 := szs_le r (fun y hy => h y (by simp [hy]))
    simp [szs]; omega
theorem bls_mem : ∀ (f : Nat) (l : List Int) (x : List Int), x ∈ bls f l → x.length ≤ 254
  | 0, _, _, h => by simp [bls] at h
  | f + 1, l, x, h => by
    unfold bls at h
    rcases List.mem_cons.1 h with rfl | h
    · have := blk_le l; rw [List.length_take]; omega
    · split at h
      · exact bls_mem f _ x h
      · simp at h
/-- Blocks, stuffed. -/
def enc : List (List Int) → List Int
  | [] => []
  | x :: r => (((x.length + 1 : Nat) : Int) :: x) ++ enc r
theorem enc_app : ∀ (a b : List (List Int)), enc (a ++ b) = enc a ++ enc b
  | [], b => by simp [enc]
  | x :: r, b => by simp [enc, enc_app r b]
theorem enc_len : ∀ (a : List (List Int)), (enc a).length = szs a
  | [] => rfl
  | x :: r => by simp [enc, szs, enc_len r]; omega
theorem szs_take (l : List Int) (k : Nat) : szs ((blks l).take k) ≤ 255 * (l.length + 1) := by
  have h := szs_le ((blks l).take k) (fun x hx => bls_mem _ _ x (List.mem_of_mem_take hx))
  have := blks_len l
  have h3 : ((blks l).take k).length ≤ l.length + 1 := by rw [List.length_take]; omega
  exact Nat.le_trans h (Nat.mul_le_mul_left _ h3)

def SizeI (l w0 : List Int) (w : World) (k : Nat) (W : World) : Prop := Boxed W w.heap.size 3 (.int .i64 (szs ((blks l).take k) : Int)) ∧ Below w.heap.size w W

def EncI (l : List Int) (w : World) (k : Nat) (W : World) : Prop :=
  ∃ (A : Option Addr) (c : Nat) (ys : List Int), ys = enc ((blks l).take k) ∧ Boxed W w.heap.size 25 (.slice A ys.length c) ∧ Kd.R (Kd.int .u8) 5 W (w.heap.size + 2) (fun _ => True) (.slice A ys.length c) ys ∧ Below w.heap.size w W ∧ w.heap.size + 2 ≤ W.heap.size

/-- A round of cobs.Encode: how many, then the bytes, behind what is in a box. -/
theorem enc_round (W2 : World) (B base n0 : Nat) (hB : B < base) (hbn : base ≤ n0) (hn0 : n0 ≤ W2.heap.size) (A1 : Option Addr) (c1 : Nat) (ys : List Int) (b2 : Boxed W2 B 25 (.slice A1 ys.length c1))
    (R1 : (Kd.int .u8).R 5 W2 base (fun _ => True) (.slice A1 ys.length c1) ys) (hlt : ∀ q, (Value.slice A1 ys.length c1).ownBlock = some q → q < n0)
    (A2 : Option Addr) (c2 : Nat) (xs : List Int) (R2 : (Kd.int .u8).R 5 W2 n0 (fun _ => True) (.slice A2 xs.length c2) xs) (hl : ys.length ≤ 300000000) (hx : xs.length ≤ 254) :
    ∃ A3 c3 w1 A4 c4 w4, (Builtin.append_ #[25, 25] 25 #[.slice A1 ys.length c1, .slice (some ⟨W2.heap.size, 0, none⟩) 1 1]).run Tryz.prog (W2.alloc (.cells #[.int .u8 ((xs.length : Int) + 1)] 5)) = .ok (.slice A3 (ys.length + 1) c3) w1 ∧
      Boxed w1 B 25 (.slice A1 ys.length c1) ∧
      (Builtin.append_ #[25, 25] 25 #[.slice A3 (ys.length + 1) c3, .slice A2 xs.length c2]).run Tryz.prog (w1.setCell ⟨B, 0, none⟩ (.slice A3 (ys.length + 1) c3)) = .ok (.slice A4 (ys.length + 1 + xs.length) c4) w4 ∧
      Boxed w4 B 25 (.slice A3 (ys.length + 1) c3) ∧
      ∀ Wf, Wf = w4.setCell ⟨B, 0, none⟩ (.slice A4 (ys.length + 1 + xs.length) c4) → Boxed Wf B 25 (.slice A4 (ys ++ (((xs.length : Int) + 1) :: xs)).length c4) ∧ (Kd.int .u8).R 5 Wf base (fun _ => True) (.slice A4 (ys ++ (((xs.length : Int) + 1) :: xs)).length c4) (ys ++ (((xs.length : Int) + 1) :: xs)) ∧ Keep (fun b => b < base ∧ b ≠ B) W2 Wf ∧ Books W2 Wf ∧ W2.heap.size ≤ Wf.heap.size ∧ (∀ (m : Nat) (w : World), Below m w W2 → m ≤ B → Below m w Wf) := by
  have hbase : base ≤ W2.heap.size := by omega
  obtain ⟨v1, w1, r1, S1, g1, a1⟩ := run_app_one (P := Tryz.prog) (t := 25) (e := 5) (ty := 25) (p := (xs.length : Int) + 1) (cs := [.int .u8 ((xs.length : Int) + 1)]) (okp := fun _ => False) (Kd.int .u8) Tryz.underlying25 infoB rfl (by decide) (by decide) R1 rfl (fun _ h => h.elim) (fun _ _ => trivial) hbase (by omega)
  obtain ⟨A3, c3, e3⟩ := Kd.R_slice S1
  rw [List.length_append, List.length_singleton] at e3
  subst e3
  have hb1 : ∀ q, (Value.slice A1 ys.length c1).ownBlock = some q → base ≤ q := fun q e => Kd.R_base R1 q e
  have b3 : Boxed w1 B 25 (.slice A1 ys.length c1) := boxed_app b2 g1 (fun q e => by have := hb1 q e; omega)
  have k1 : Keep (fun b => b < base ∧ b ≠ B) W2 w1 := Keep.grown g1 (fun q e => by have := hb1 q e; omega)
  have o1 : Books W2 w1 := books_row g1 (Kd.R_typed R1)
  have k2 : Keep (fun b => b < base ∧ b ≠ B) w1 (w1.setCell ⟨B, 0, none⟩ (.slice A3 (ys.length + 1) c3)) := Keep.setCell _ (by simp) _
  have o2 : Books w1 (w1.setCell ⟨B, 0, none⟩ (.slice A3 (ys.length + 1) c3)) := Books.setCell _ _ _
  have S2 : (Kd.int .u8).R 5 (w1.setCell ⟨B, 0, none⟩ (.slice A3 (ys.length + 1) c3)) base (fun _ => True) (.slice A3 (ys.length + 1) c3) (ys ++ [(xs.length : Int) + 1]) := Kd.R_set S1 b3 (by decide) _ _
  have b4 : Boxed (w1.setCell ⟨B, 0, none⟩ (.slice A3 (ys.length + 1) c3)) B 25 (.slice A3 (ys.length + 1) c3) := b3.set _
  have X2 : (Kd.int .u8).C (w1.setCell ⟨B, 0, none⟩ (.slice A3 (ys.length + 1) c3)) A2 xs.length xs := by
    have hkept : Kept W2 (w1.setCell ⟨B, 0, none⟩ (.slice A3 (ys.length + 1) c3)) (fun k => (Value.slice A1 ys.length c1).ownBlock = some k ∨ k = B) :=
      Kept.setCell (Kept.of_grown g1 (Kept.refl W2 _) (fun k e => .inl (.inl e))) (.inl (.inr rfl)) _
    have := Kd.R_kept (Kd.R_bound R2) hkept (fun k hk hs => by
      rcases hs with hs | hs
      · have := hlt k hs; omega
      · omega)
    exact (Kd.R_reads' this).2.2
  generalize hw2 : w1.setCell ⟨B, 0, none⟩ (.slice A3 (ys.length + 1) c3) = w2 at *
  obtain ⟨v4, w4, r4, S4, g4, a4⟩ := run_app_row (P := Tryz.prog) (t := 25) (e := 5) (ty := 25) (c := c2) .u8 Tryz.underlying25 infoB (by decide) S2 X2 (fun _ _ => trivial) (Nat.le_trans hbase (Nat.le_trans k1.size k2.size)) (by rw [List.length_append, List.length_singleton]; omega)
  obtain ⟨A4, c4, e4⟩ := Kd.R_slice S4
  have e5 : (ys ++ [(xs.length : Int) + 1] ++ xs).length = ys.length + 1 + xs.length := by simp; omega
  rw [e5] at e4
  subst e4
  have hb4 : ∀ q, (Value.slice A3 (ys.length + 1) c3).ownBlock = some q → base ≤ q := fun q e => Kd.R_base S2 q e
  have b5 : Boxed w4 B 25 (.slice A3 (ys.length + 1) c3) := boxed_app b4 g4 (fun q e => by have := hb4 q e; omega)
  have k3 : Keep (fun b => b < base ∧ b ≠ B) w2 w4 := Keep.grown g4 (fun q e => by have := hb4 q e; omega)
  have o3 : Books w2 w4 := books_row g4 (Kd.R_typed S2)
  subst hw2
  refine ⟨A3, c3, w1, A4, c4, w4, r1, b3, r4, b5, ?_⟩
  rintro Wf rfl
  have e6 : ys ++ (((xs.length : Int) + 1) :: xs) = ys ++ [(xs.length : Int) + 1] ++ xs := by simp
  rw [e6, e5]
  refine ⟨b5.set _, Kd.R_set S4 b5 (by decide) _ _, (((k1.trans k2).trans k3).trans (Keep.setCell _ (by simp) _)), (((o1.trans o2).trans o3).trans (Books.setCell _ _ _)), ?_, ?_⟩
  · have := ((k1.trans k2).trans k3).size
    simp [World.setCell]; exact this
  · intro m w h hm
    have q1 : Below m w w1 := below_app h g1 (by omega) (fun q e => by have := hb1 q e; omega)
    have q2 := q1.setCell (p := ⟨B, 0, none⟩) hm (.slice A3 (ys.length + 1) c3)
    have q3 : Below m w w4 := below_app q2 g4 (by have := k1.size; have := k2.size; omega) (fun q e => by have := hb4 q e; omega)
    exact q3.setCell (p := ⟨B, 0, none⟩) hm _

namespace Ext
def cobs_Encode.f (l0 : List Int) : Option (List Int) := if l0.length ≤ 1000000 then some (enc (blks l0)) else none
set_option maxRecDepth 100000 in
set_option maxHeartbeats 2000000 in
theorem cobs_Encode.calls (A0 : Option Addr) (c0 : Nat) (l0 : List Int) (r : List Int) (w : World) (hr0 : Kd.C (Kd.int .u8) w A0 l0.length l0) (hc0 : l0.length ≤ c0) (h : cobs_Encode.f l0 = some r) :
    Calls Tryz.prog 134 #[.slice A0 l0.length c0] w fun e w' => ∃ v0_ : Value, e = .returned v0_ ∧ Kd.R (Kd.int .u8) 5 w' w.heap.size (fun _ => True) v0_ r ∧ Below w.heap.size w w' := by
  unfold cobs_Encode.f at h
  split at h
  case isFalse => cases h
  rename_i hlen
  have hr := Option.some.inj h
  have HRR := Lib.hid hr
  clear h hr
  refine (callsIn_wide (n := 5)).1 (callsIn_of_wp_marks Tryz.func134 rfl trivial ?_ rfl)
  simp only [Tryz.ntmps134, List.size_toArray, List.length_cons, List.length_nil, Nat.reduceAdd, Nat.reduceSub, Array.replicate_succ, Array.replicate_zero, List.push_toArray, List.append_toArray, List.nil_append, List.cons_append]
  refine wpIn_wide.2 ?_
  go_wp2_with (go_at_call 190; refine (blocks_call _ _ _ _ rfl _).mono ?_; rintro e w' ⟨rfl, rfl⟩)
  have hbW : Below w.heap.size w ((w.alloc (.cells #[.slice none 0 0] 25)).alloc (.cells #[.slice A0 l0.length c0] 25)) := ((Below.refl _ w).alloc (Nat.le_refl _) _).alloc (by simp) _
  obtain ⟨w2, hw2⟩ : ∃ w2, ((w.alloc (.cells #[.slice none 0 0] 25)).alloc (.cells #[.slice A0 l0.length c0] 25)) = w2 := ⟨_, rfl⟩
  have hs2 : w2.heap.size = w.heap.size + 2 := by rw [← hw2]; simp
  have bO : Boxed w2 w.heap.size 25 (.slice none 0 0) := by rw [← hw2]; exact (Boxed.new w 25 (.slice none 0 0)).alloc _
  have bB : Boxed w2 (w.heap.size + 1) 25 (.slice A0 l0.length c0) := by rw [← hw2]; have := Boxed.new (w.alloc (.cells #[.slice none 0 0] 25)) 25 (.slice A0 l0.length c0); rwa [World.size_alloc] at this
  rw [hw2] at hbW ⊢
  refine wp_range0 (gf := 242) (lb := #[.pointer (some ⟨w.heap.size + 1, 0, none⟩)]) rfl (enters_of Tryz.func242 (by kernel_rfl) rfl)
    (blocks1 w w2 (w.heap.size + 1) A0 c0 l0 bB.cell hc0 hr0 hlen hbW) (fun b hb => by rcases hb with hb | hb <;> omega) (fun k vs T B W h => by obtain ⟨_, _, _, _, rfl, _⟩ := h; rfl)
    (EncI l0 w) (fun _ _ _ => False) ?hI (fun _ _ _ _ h _ => h) ?h0 ?round ?done ?stop
  case hI =>
    rintro k W W' ⟨A, c, ys, hy, h1, h2, h3, h4⟩ hs
    exact ⟨A, c, ys, hy, boxed_stab h1 hs (fun h => h), R_stab h2 hs (fun _ _ h => h), hs.below h3 (by omega) h3.size (fun _ _ h => h), Nat.le_trans h4 hs.size⟩
  case h0 => exact ⟨none, 0, [], rfl, bO, Kd.R_nil _ _ _ _ _, hbW, by omega⟩
  case round =>
    rintro l n k T W0 X vs hk ⟨A1, c1, ys, hy, h1, h2, h3, h4⟩ hst ⟨xs, v2, hseg, hxl, rfl, hR⟩ hRb
    obtain ⟨A2, c2, rfl⟩ := Kd.R_slice hR
    have hlen2 : ys.length ≤ 255 * (l0.length + 1) := by rw [hy, enc_len]; exact szs_take l0 k
    have HY := Lib.hid (And.intro hy hseg)
    clear hy hseg
    gi_wp2
    refine ⟨Below.refl _ _, fun W2 hs => ?_⟩
    have hs02 := hst.trans hs (fun b h => h.elim)
    have b2 := boxed_stab h1 hs02 (fun h => h)
    have R1 := R_stab h2 hs02 (fun _ _ h => h)
    have R2 := R_stab hR hs (fun _ _ h => h)
    have hsz : W0.heap.size ≤ W2.heap.size := hs02.size
    obtain ⟨A3, c3, w1, A4, c4, w4, r1, b3, r4, b5, hfin⟩ := enc_round W2 w.heap.size (w.heap.size + 2) W0.heap.size (by omega) h4 hsz A1 c1 ys b2 R1 (fun q e => Kd.R_lt h2 q e) A2 c2 xs R2 (by omega) hxl
    have hB4 : Below w.heap.size w W2 := hs02.below h3 (by omega) h3.size (fun _ _ h => h)
    have hz4 : w.heap.size + 2 ≤ W2.heap.size := by omega
    have HF := Lib.hid (And.intro hfin (And.intro hB4 hz4))
    have hw8 : ((xs.length : Int) + 1) % 256 = (xs.length : Int) + 1 := by omega
    have e1 : wrap64 ((xs.length : Int) + 1) = (xs.length : Int) + 1 := by unfold wrap64; omega
    have c2' := cell_al b2.cell (.cells #[.int .u8 ((xs.length : Int) + 1)] 5)
    have c2'' := b2.cell
    have c3' := b3.cell
    have f3' := b3.frozen
    have b4 := b3.set (.slice A3 (ys.length + 1) c3)
    have c4' := b4.cell
    have c5' := b5.cell
    have f5' := b5.frozen
    clear h1 h2 h3 h4 hst hs hs02 R1 R2 hR hfin hB4 hz4 hsz b2 b3 b4 b5
    gi_wp2_with (gi_at_builtin; first | (refine runIn_app _ _ _ (by kernel_rfl) rfl r1 ?_) | (refine runIn_app _ _ _ (by kernel_rfl) rfl r4 ?_))
    obtain ⟨g1, g2, g3, g4, g5, g6⟩ := HF.out.1 _ rfl
    refine ⟨g3.mono (fun b hb => by omega), g4, A4, c4, _, ?_, g1, g2, g6 _ _ HF.out.2.1 (Nat.le_refl _), by have := HF.out.2.2; omega⟩
    rw [List.take_add_one, HY.out.2, enc_app, ← HY.out.1]
    simp [enc]
  case done =>
    rintro D W ⟨A1, c1, ys, hy, h1, h2, h3, h4⟩ hD hd
    rw [List.take_length] at hy
    have hcb := h1.cell
    have HH := Lib.hid (And.intro (hy.trans HRR.out) (And.intro h2 (And.intro h3 hd)))
    clear hy h1 h2 h3 hd
    go_wp2
    have st := stab_shut (T := fun _ => False) (n := w.heap.size) HH.out.2.2.2 (by omega)
    refine marks_ret (v := .slice A1 ys.length c1) (by simp [results, Tryz.results134, Act.put, go_sem]) (by simp [Act.put]) HH.out.2.2.2 ⟨_, rfl, ?_, ?_⟩
    · have := R_stab HH.out.2.1 st (fun _ _ h => h)
      rw [← HH.out.1]
      exact Kd.R_lower this (by omega)
    · exact st.below HH.out.2.2.1 (Nat.le_refl _) HH.out.2.2.1.size (fun _ _ h => h)
  case stop =>
    rintro D c k W _ h
    exact h.elim
end Ext
end Go.Proofs.YtgdlpgakhhebeaaGreatDoor
end
