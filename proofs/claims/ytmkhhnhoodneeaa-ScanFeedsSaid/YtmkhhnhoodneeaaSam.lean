/- scan: segments that are the same: bytes.Equal, the closure, EqualFunc, Same. -/
import Derived.Test.YtmkhhnhoodneeaaKno
import Derived.Test.YtmkhhnhoodneeaaPx3
set_option linter.unusedVariables false
set_option linter.unusedSimpArgs false
namespace Go.Proofs.Ytmkhhnhoodneeaa
open Go.RowKit Go.Proofs.YtmkhhnhoodneeaaW.PrintWords Go.Proofs.YtmkhhnhoodneeaaW.PrintMore
attribute [local go_sem] Oper.semAt_some

set_option maxRecDepth 100000 in
set_option maxHeartbeats 2000000 in
theorem eqb_call (w : World) (A B : Option Addr) (n m c d : Nat) (xs : List Int) (hA : (Kd.int .u8).C w A n xs) (hB : (Kd.int .u8).C w B m xs) : Calls Try.prog 27 #[.slice A n c, .slice B m d] w fun e w' => e = .returned (.bool true) ∧ w' = w := by
  have h1 := Kd.C_string (P := Try.prog) (A := A) (c := c) Try.underlying22 Try.underlying5 Try.underlying9 hA
  have h2 := Kd.C_string (P := Try.prog) (A := B) (c := d) Try.underlying22 Try.underlying5 Try.underlying9 hB
  go_enter Try.func27, Try.ntmps27
  go_wp2_with (fail)
  go_ret
  exact ⟨rfl, rfl⟩

/-- A segment as a value. -/
def segV (A : Option Addr) (c : Nat) (s : P.S39) : Value := .agg #[.slice A s.f0.length c, .bool s.f1, .int .i64 s.f2, .int .u64 s.f3]
set_option maxRecDepth 100000 in
set_option maxHeartbeats 2000000 in
theorem clo_call (w : World) (A B : Option Addr) (c d : Nat) (s : P.S39) (hA : (Kd.int .u8).C w A s.f0.length s.f0) (hB : (Kd.int .u8).C w B s.f0.length s.f0) : Calls Try.prog 26 #[segV A c s, segV B d s] w fun e w' => e = .returned (.bool true) ∧ Below w.heap.size w w' := by
  obtain ⟨l, f1, f2, f3⟩ := s
  dsimp only at hA hB
  unfold segV
  dsimp only
  generalize hn : l.length = n at *
  clear hn
  have hb : Below w.heap.size w ((w.alloc (.cells #[.slice A n c, .bool f1, .int .i64 f2, .int .u64 f3] 39)).alloc (.cells #[.slice B n d, .bool f1, .int .i64 f2, .int .u64 f3] 39)) := ((Below.refl _ w).alloc (Nat.le_refl _) _).alloc (by simp) _
  obtain ⟨X, hX⟩ : ∃ X, (w.alloc (.cells #[.slice A n c, .bool f1, .int .i64 f2, .int .u64 f3] 39)).alloc (.cells #[.slice B n d, .bool f1, .int .i64 f2, .int .u64 f3] 39) = X := ⟨_, rfl⟩
  have b1 : B4 X w.heap.size (.slice A n c) (.bool f1) (.int .i64 f2) (.int .u64 f3) := by
    rw [← hX]; exact (Below.heap_alloc _ _ _ (by simp)).trans (World.alloc_heap_new w _)
  have b2 : B4 X (w.heap.size + 1) (.slice B n d) (.bool f1) (.int .i64 f2) (.int .u64 f3) := by
    rw [← hX]; have := World.alloc_heap_new (w.alloc (.cells #[.slice A n c, .bool f1, .int .i64 f2, .int .u64 f3] 39)) (.cells #[.slice B n d, .bool f1, .int .i64 f2, .int .u64 f3] 39); rwa [World.size_alloc] at this
  rw [hX] at hb
  obtain ⟨x0, x1, x2, x3⟩ := b1.c
  obtain ⟨y0, y1, y2, y3⟩ := b2.c
  have HB := Lib.hid hb
  clear hb b1 b2
  go_enter Try.func26, Try.ntmps26
  go_wp2_with (fail)
  refine (eqb_call X A B _ _ _ _ l (Kd.C_below hA HB.out) (Kd.C_below hB HB.out)).mono ?_
  rintro e w' ⟨rfl, rfl⟩
  go_wp2_with (fail)
  go_ret
  exact ⟨rfl, HB.out⟩

set_option maxRecDepth 100000 in
set_option maxHeartbeats 4000000 in
theorem eqf_call (w : World) (A B : Option Addr) (c d : Nat) (L : List P.S39) (hA : Kd.C P.k39 w A L.length L) (hB : Kd.C P.k39 w B L.length L) (hL : L.length ≤ 1000000) : Calls Try.prog 25 #[.slice A L.length c, .slice B L.length d, .func (.func 26) #[] #[]] w fun e w' => e = .returned (.bool true) ∧ Below w.heap.size w w' := by
  have HA := Lib.hid hA
  have HB := Lib.hid hB
  clear hA hB
  go_enter Try.func25, Try.ntmps25
  go_wp2_with (fail)
  go_loopw [17] (fun t X => ∃ i : Nat, t = .int .i64 (i : Int) ∧ i ≤ L.length ∧ Below w.heap.size w X) (fun t _ => L.length - (intV t).toNat)
  case atStart => exact ⟨0, rfl, Nat.zero_le _, Below.refl _ _⟩
  case round =>
    obtain ⟨i, rfl, hi, hbr⟩ := hrel
    by_cases hlt : i < L.length
    · obtain ⟨a1, A1, c1, e1, p0, p1, p2, p3, q1, q2⟩ := P.at_T39 (Kd.C_below HA.out hbr) (i : Int) (by omega) (by omega)
      obtain ⟨a2, A2, c2, e2, r0, r1, r2, r3, s1, s2⟩ := P.at_T39 (Kd.C_below HB.out hbr) (i : Int) (by omega) (by omega)
      subst e1 e2
      rw [Int.toNat_natCast] at p0 p1 p2 p3 r0 r1 r2 r3
      have hlt2 : ((i : Int) < (L.length : Int)) = True := eq_true (by omega)
      generalize P.rd_T39 L (i : Int) = s at *
      obtain ⟨l, f1, f2, f3⟩ := s
      dsimp only at *
      have HBR := Lib.hid (And.intro hbr (And.intro q2 s2))
      obtain ⟨X1, hX1⟩ : ∃ X1, wr.alloc (.cells #[.slice A1 l.length c1, .bool f1, .int .i64 f2, .int .u64 f3] 39) = X1 := ⟨_, rfl⟩
      have bX1 : Below wr.heap.size wr X1 := by rw [← hX1]; exact (Below.refl _ wr).alloc (Nat.le_refl _) _
      have hs1 : X1.heap.size = wr.heap.size + 1 := by rw [← hX1]; simp
      have m1 : B4 X1 wr.heap.size (.slice A1 l.length c1) (.bool f1) (.int .i64 f2) (.int .u64 f3) := by rw [← hX1]; exact World.alloc_heap_new wr _
      have r0 := pw_cell_below bX1 r0
      have r1 := pw_cell_below bX1 r1
      have r2 := pw_cell_below bX1 r2
      have r3 := pw_cell_below bX1 r3
      obtain ⟨X2, hX2⟩ : ∃ X2, X1.alloc (.cells #[.slice A2 l.length c2, .bool f1, .int .i64 f2, .int .u64 f3] 39) = X2 := ⟨_, rfl⟩
      have bX2 : Below X1.heap.size X1 X2 := by rw [← hX2]; exact (Below.refl _ X1).alloc (Nat.le_refl _) _
      have hs2 : X1.heap.size = wr.heap.size + 1 := hs1
      have m2 : B4 X2 X1.heap.size (.slice A2 l.length c2) (.bool f1) (.int .i64 f2) (.int .u64 f3) := by rw [← hX2]; exact World.alloc_heap_new X1 _
      have n1 : B4 X2 wr.heap.size (.slice A1 l.length c1) (.bool f1) (.int .i64 f2) (.int .u64 f3) := (bX2.block _ (by omega)).trans m1
      obtain ⟨x0, x1, x2, x3⟩ := n1.c
      obtain ⟨y0, y1, y2, y3⟩ := m2.c
      have b2 : Below wr.heap.size wr X2 := bX1.trans (bX2.mono bX1.size)
      have e1 : wrap64 ((i : Int) + 1) = ((i + 1 : Nat) : Int) := by unfold wrap64; omega
      have HX := Lib.hid (And.intro b2 e1)
      clear hbr q2 s2 bX1 bX2 m1 m2 n1 b2 hs2 hs1
      go_wp2_with (fail)
      refine (clo_call X2 A1 A2 c1 c2 ⟨l, f1, f2, f3⟩ (Kd.C_below HBR.out.2.1 HX.out.1) (Kd.C_below HBR.out.2.2 HX.out.1)).mono ?_
      rintro e X3 ⟨rfl, b3⟩
      have HX3 := Lib.hid (HBR.out.1.trans ((HX.out.1.trans (b3.mono HX.out.1.size)).mono HBR.out.1.size))
      clear b3
      go_wp2_with (fail)
      refine ⟨⟨i + 1, by simp, hlt, HX3.out⟩, by simp [intV]; omega⟩
    · have hie : i = L.length := by omega
      subst hie
      have hlt2 : ((L.length : Int) < (L.length : Int)) = False := eq_false (by omega)
      have HBR := Lib.hid hbr
      clear hbr
      go_wp2_with (fail)
      exact bodyPost_ret (v := .bool true) (by simp [results, Try.results25, go_sem]) rfl ⟨rfl, HBR.out⟩
set_option maxRecDepth 100000 in
set_option maxHeartbeats 2000000 in
theorem same_call (w : World) (A B : Option Addr) (c d : Nat) (L : List P.S39) (hA : Kd.C P.k39 w A L.length L) (hB : Kd.C P.k39 w B L.length L) (hL : L.length ≤ 1000000) : Calls Try.prog 17 #[.slice A L.length c, .slice B L.length d] w fun e w' => e = .returned (.bool true) ∧ Below w.heap.size w w' := by
  go_enter Try.func17, Try.ntmps17
  go_wp2_with (fail)
  refine (eqf_call w A B c d L hA hB hL).mono ?_
  rintro e w1 ⟨rfl, b1⟩
  go_wp2_with (fail)
  go_ret
  exact ⟨rfl, b1⟩
/-- A row of segments, to be read. -/
theorem SegRow.C {base : Nat} {W : World} {T : Nat → Prop} {A : Option Addr} {c : Nat} {L : List P.S39} (h : SegRow base W T (.slice A L.length c) L) (hL : L.length ≤ 1000000) : Kd.C P.k39 W A L.length L := by
  refine ⟨rfl, by omega, fun hpos => ?_⟩
  obtain ⟨s, hs⟩ : ∃ s, L[0]? = some s := ⟨_, List.getElem?_eq_getElem hpos⟩
  obtain ⟨ad, B, e, _⟩ := h.at_ 0 s hs
  refine ⟨ad, e, fun j p hj => ?_⟩
  obtain ⟨ad', B', e', hB, hc⟩ := h.at_ j p hj
  rw [e] at e'; cases e'
  exact ⟨segC B' p, rfl, P.k39_mk W p (Nat.le_refl _) (Kd.F_now hB), hc⟩
theorem sgs_len : ∀ (l : List Int) (xs : List Int) (n fed : Nat), (sgs xs n fed l).length ≤ l.length := by
  intro l
  induction l with
  | nil => intro xs n fed; simp [sgs]
  | cons y r ih =>
    intro xs n fed
    unfold sgs
    split
    · split
      · exact Nat.le_trans (ih _ _ _) (by simp)
      · simp only [List.length_cons]; have := ih [] 0 (fed + 1); omega
    · exact Nat.le_trans (ih _ _ _) (by simp)
end Go.Proofs.Ytmkhhnhoodneeaa
