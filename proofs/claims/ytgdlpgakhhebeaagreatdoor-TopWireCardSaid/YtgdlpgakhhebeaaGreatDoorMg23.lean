/- Part 23 of the proof of TopWire: Enp, Siz, Hoist2. -/
import Derived.Test.YtgdlpgakhhebeaaGreatDoorMg11
import Derived.Test.YtgdlpgakhhebeaaGreatDoorMg22
section
set_option linter.unusedVariables false
set_option linter.unusedSimpArgs false
namespace Go.Proofs.YtgdlpgakhhebeaaGreatDoor
open Go.RowKit Go.Proofs.YtgdlpgakhhebeaaGreatDoorW.PrintWords Go.Proofs.YtgdlpgakhhebeaaGreatDoorW.PrintMore
attribute [local go_sem] Oper.semAt_some

theorem C_int_stab {k : IntKind} {w w1 : World} {A : Option Addr} {n m : Nat} {xs : List Int} (h : (Kd.int k).C w A n xs) (hs : Stab (fun _ => False) m w w1) : (Kd.int k).C w1 A n xs :=
  ⟨h.1, h.2.1, fun h0 => by
    obtain ⟨ad, e, hc⟩ := h.2.2 h0
    exact ⟨ad, e, fun j p hj => by
      obtain ⟨c, h1, h2, h3⟩ := hc j p hj
      exact ⟨c, h1, h2, fun i u hu => hs.cell (h3 i u hu) id⟩⟩⟩
theorem al3_a (w : World) (a b c : Obj) : (((w.alloc a).alloc b).alloc c).heap[w.heap.size]? = some a := (Below.heap_alloc _ _ _ (by simp; omega)).trans (al2_a w a b)
theorem al3_b (w : World) (a b c : Obj) : (((w.alloc a).alloc b).alloc c).heap[w.heap.size + 1]? = some b := (Below.heap_alloc _ _ _ (by simp)).trans (al2_b w a b)
theorem al3_c (w : World) (a b c : Obj) : (((w.alloc a).alloc b).alloc c).heap[w.heap.size + 2]? = some c := by
  have := World.alloc_heap_new ((w.alloc a).alloc b) c
  simpa using this
/-- The bytes behind so many fields. -/
def encT (m : Ms) (v : Int) (j : Nat) : List Int := ((vfl m.k v).take j).flatMap (prt m)
theorem encT_next (m : Ms) (v : Int) (j : Nat) (f : P.S150) (h : (vfl m.k v)[j]? = some f) : encT m v (j + 1) = encT m v j ++ prt m f := by
  obtain ⟨hl, e⟩ := List.getElem?_eq_some_iff.1 h
  unfold encT
  rw [List.take_succ_eq_append_getElem hl, e]
  simp
theorem encT_all (m : Ms) (v : Int) : encT m v (vfl m.k v).length = encM m v := by
  unfold encT encM
  rw [List.take_length]
theorem encT_le (m : Ms) (v : Int) (j : Nat) : (encT m v j).length ≤ (encM m v).length := by
  unfold encT encM
  conv => rhs; rw [← List.take_append_drop j (vfl m.k v)]
  rw [List.flatMap_append, List.length_append]
  omega
theorem encM_len (m : Ms) (v : Int) (hv : v = 1 ∨ v = 2) (hm : Fit m) (hk : chk m = 0) : 1 ≤ (encM m v).length ∧ (encM m v).length ≤ 192 := body_len m v hv hm.path hm.cells (chk_zero hk).1 (chk_zero hk).2.1
/-- Between two parts. -/
def BdyI (w : World) (ob : Nat) (m : Ms) (v : Int) (j : Nat) (T : Nat → Prop) (X : World) : Prop :=
  ∃ (A : Option Addr) (c : Nat) (ys : List Int), ys = encT m v j ∧ Boxed X ob 25 (.slice A ys.length c) ∧ Kd.R (Kd.int .u8) 5 X (ob + 3) (fun q => ob + 5 ≤ q ∧ ¬ T q) (.slice A ys.length c) ys ∧ Below w.heap.size w X ∧ ob + 3 ≤ X.heap.size ∧ ∀ b, T b → ob + 3 ≤ b
theorem bdyI_step {w : World} {ob : Nat} {m : Ms} {v : Int} {j : Nat} {T T' : Nat → Prop} {X X' : World} (hob : w.heap.size ≤ ob) (h : BdyI w ob m v j T X) (hs : StabN (Bk (ob + 3) T) X X') (hT : ∀ b, T' b → T b ∨ X.heap.size ≤ b) : BdyI w ob m v j T' X' := by
  obtain ⟨A, c, ys, hy, h2, h3, h4, h5, h6⟩ := h
  have hB : ∀ b, Bk (ob + 3) T b → ob + 3 ≤ b := fun b hb => by
    rcases hb with hb | rfl | rfl
    · exact h6 b hb
    · omega
    · omega
  refine ⟨A, c, ys, hy, boxed_stab h2 hs (fun h => by have := hB _ h; omega), Kd.R_mono (R_stab (Kd.R_bound h3) hs (fun q hq h => ?_)) (fun q hq => ⟨hq.1.1, fun h => ?_⟩), Stab.below hs h4 h4.size h4.size (fun b hb h => by have := hB b h; omega), Nat.le_trans h5 hs.size, fun b hb => ?_⟩
  · rcases h with h | h | h
    · exact hq.1.2 h
    · have := hq.1.1; omega
    · have := hq.1.1; omega
  · rcases hT q h with h | h
    · exact hq.1.2 h
    · have := hq.2.2.1; omega
  · rcases hT b hb with h | h
    · exact h6 b h
    · omega
set_option maxRecDepth 100000 in
set_option maxHeartbeats 4000000 in
theorem encode_bad (m : Ms) (v : Int) (hv : v = 1 ∨ v = 2) (hk : chk m ≠ 0) (w : World) (Ap : Option Addr) (cp : Nat) (Ac : Option Addr) (cc : Nat) (h : MsR w m Ap cp Ac cc) (hm : Fit m) :
    Calls Tryz.prog 80 #[mV m Ap cp Ac cc, .int .i64 v] w fun e w' => e = .returned (.tuple #[.slice none 0 0, .int .i64 (chk m)]) ∧ Below w.heap.size w w' := by
  have bA : Below w.heap.size w (w.alloc (.cells (m.cs Ap cp Ac cc) 69)) := (Below.refl _ w).alloc (Nat.le_refl _) _
  have HC := Lib.hid (And.intro (bcheck_call m v hv _ Ap cp Ac cc (h.below bA) hm) bA)
  have hne : (chk m != 0) = true := by simpa using hk
  generalize chk m = R at *
  clear h hm bA hk
  unfold mV Ms.cs
  go_enter Tryz.func80, Tryz.ntmps80
  go_wp2_with (fail)
  refine HC.out.1.mono ?_
  rintro e w2 ⟨rfl, hb⟩
  have HB := Lib.hid (HC.out.2.trans (hb.mono HC.out.2.size))
  clear hb HC
  go_wp2_with (fail)
  exact bodyPost_ret (v := .tuple #[.slice none 0 0, .int .i64 R]) (by simp [results, Tryz.results80, go_sem]) rfl ⟨rfl, HB.out⟩
set_option maxRecDepth 100000 in
set_option maxHeartbeats 4000000 in
theorem encode_call (m : Ms) (v : Int) (hv : v = 1 ∨ v = 2) (hk : chk m = 0) (w : World) (Ap : Option Addr) (cp : Nat) (Ac : Option Addr) (cc : Nat) (h : MsR w m Ap cp Ac cc) (hm : Fit m) :
    Calls Tryz.prog 80 #[mV m Ap cp Ac cc, .int .i64 v] w fun e w' => ∃ vo : Value, e = .returned (.tuple #[vo, .int .i64 0]) ∧ Kd.R (Kd.int .u8) 5 w' w.heap.size (fun _ => True) vo (encM m v) ∧ Below w.heap.size w w' := by
  have bA : Below w.heap.size w (w.alloc (.cells (m.cs Ap cp Ac cc) 69)) := (Below.refl _ w).alloc (Nat.le_refl _) _
  have HC := Lib.hid (And.intro (bcheck_call m v hv _ Ap cp Ac cc (h.below bA) hm) bA)
  rw [hk] at HC
  have hel := encM_len m v hv hm hk
  have hea := encT_all m v
  have HM := Lib.hid (And.intro h (And.intro hm (And.intro hk (And.intro hea hel))))
  clear h hm bA hk hel hea
  unfold mV Ms.cs
  refine (callsIn_wide (n := 5)).1 (callsIn_of_wp_marks Tryz.func80 rfl trivial ?_ rfl)
  simp only [Tryz.ntmps80, List.size_toArray, List.length_cons, List.length_nil, Nat.reduceAdd, Nat.reduceSub, Array.replicate_succ, Array.replicate_zero, List.push_toArray, List.append_toArray, List.nil_append, List.cons_append]
  refine wpIn_wide.2 ?_
  go_wp2_with (fail)
  refine HC.out.1.mono ?_
  rintro e w2 ⟨rfl, hb⟩
  have hM := (hb.block w.heap.size (by simp)).trans (World.alloc_heap_new w (.cells (m.cs Ap cp Ac cc) 69))
  have hB := HC.out.2.trans (hb.mono HC.out.2.size)
  have hz : w.heap.size < w2.heap.size := (Array.getElem?_eq_some_iff.1 hM).1
  have bO : Below w2.heap.size w2 (w2.alloc (.cells #[.slice none 0 0] 25)) := (Below.refl _ w2).alloc (Nat.le_refl _) _
  have hMo := (bO.block w.heap.size hz).trans hM
  have H2 := Lib.hid (And.intro hB hz)
  have q0 : (w2.alloc (.cells #[.slice none 0 0] 25)).cell? ⟨w.heap.size, 0, none⟩ = some (.int .i64 m.k) := cell_at hMo rfl
  have q1 : (w2.alloc (.cells #[.slice none 0 0] 25)).cell? ⟨w.heap.size, 1, none⟩ = some (.int .i64 m.n0) := cell_at hMo rfl
  have q2 : (w2.alloc (.cells #[.slice none 0 0] 25)).cell? ⟨w.heap.size, 2, none⟩ = some (.int .i64 m.n1) := cell_at hMo rfl
  have q3 : (w2.alloc (.cells #[.slice none 0 0] 25)).cell? ⟨w.heap.size, 3, none⟩ = some (.int .i64 m.n2) := cell_at hMo rfl
  have q4 : (w2.alloc (.cells #[.slice none 0 0] 25)).cell? ⟨w.heap.size, 4, none⟩ = some (.int .i64 m.n3) := cell_at hMo rfl
  have q5 : (w2.alloc (.cells #[.slice none 0 0] 25)).cell? ⟨w.heap.size, 5, none⟩ = some (.int .i64 m.n4) := cell_at hMo rfl
  have q6 : (w2.alloc (.cells #[.slice none 0 0] 25)).cell? ⟨w.heap.size, 6, none⟩ = some (.int .i64 m.n5) := cell_at hMo rfl
  have q7 : (w2.alloc (.cells #[.slice none 0 0] 25)).cell? ⟨w.heap.size, 7, none⟩ = some (.slice Ap m.path.length cp) := cell_at hMo rfl
  have q8 : (w2.alloc (.cells #[.slice none 0 0] 25)).cell? ⟨w.heap.size, 8, none⟩ = some (.slice Ac m.cells.length cc) := cell_at hMo rfl
  have q9 : (w2.alloc (.cells #[.slice none 0 0] 25)).cell? ⟨w.heap.size, 9, none⟩ = some (.string m.text) := cell_at hMo rfl
  have q10 : (w2.alloc (.cells #[.slice none 0 0] 25)).cell? ⟨w.heap.size, 10, none⟩ = some (.string m.tag) := cell_at hMo rfl
  clear hb hM hB hz HC bO hMo
  go_wp2_with (fail)
  refine (partsOf_call m v _ Ap cp Ac cc).mono ?_
  rintro e wY ⟨rfl, rfl⟩
  clear q0 q1 q2 q3 q4 q5 q6 q7 q8 q9 q10
  go_wp2_with (fail)
  obtain ⟨ob, hob⟩ : ∃ ob, w2.heap.size = ob := ⟨_, rfl⟩
  obtain ⟨Y, hY⟩ : ∃ Y, (((w2.alloc (.cells #[.slice none 0 0] 25)).alloc (.cells (m.cs Ap cp Ac cc) 69)).alloc (.cells #[.int .i64 v] 3)) = Y := ⟨_, rfl⟩
  have hsY : Y.heap.size = ob + 3 := by rw [← hY, ← hob]; simp
  have hbY : Below w2.heap.size w2 Y := by rw [← hY]; exact (((Below.refl _ w2).alloc (Nat.le_refl _) _).alloc (by simp) _).alloc (by simp; omega) _
  have bO : Boxed Y ob 25 (.slice none 0 0) := by rw [← hY, ← hob]; exact al3_a w2 _ _ _
  have bM : Y.heap[ob + 1]? = some (.cells (m.cs Ap cp Ac cc) 69) := by rw [← hY, ← hob]; exact al3_b w2 _ _ _
  have bV : Boxed Y (ob + 2) 3 (.int .i64 v) := by rw [← hY, ← hob]; exact al3_c w2 _ _ _
  have hhb : w.heap.size < ob := by rw [← hob]; exact H2.out.2
  have hbw : Below w.heap.size w Y := H2.out.1.trans (hbY.mono H2.out.1.size)
  rw [hY, hob]
  clear hY hob hbY H2
  refine wp_rangeN (gf := 95) (lb := #[.pointer (some ⟨ob + 1, 0, none⟩), .pointer (some ⟨ob + 2, 0, none⟩)]) rfl (enters_of Tryz.func95 (by kernel_rfl) rfl)
    (parts2 w Y (ob + 1) (ob + 2) m v hv HM.out.2.2.1 Ap cp Ac cc HM.out.1 HM.out.2.1 hbw bM bV) trivial (fun b hb => by rcases hb with hb | hb | hb <;> omega) (fun b hb => hb.elim) (fun k vs T B W h => by obtain ⟨_, _, _, _, rfl, _⟩ := h; rfl) (fun _ _ _ _ _ _ _ => trivial)
    (fun j T X => BdyI w ob m v j T X) (fun _ _ _ _ => False) ?hI ?hIx ?h0 ?round ?done ?stop
  case hI =>
    intro j T T' X X' _ _ hi hs hT
    rw [hsY] at hs
    exact bdyI_step (Nat.le_of_lt hhb) hi hs hT
  case hIx =>
    rintro c j T T' X X' _ _ h
    exact h.elim
  case h0 => exact ⟨none, 0, [], rfl, bO, Kd.R_nil _ _ _ _ _, hbw, by omega, fun b h => h.elim⟩
  case round =>
    rintro lp nn j T T1 Wi X vs hj - - hi hT1 hst ⟨f, A2, c2, hseg, rfl, hc2, hC2⟩ hRb hlX hT1D hT1l
    rw [hsY] at hlX hT1D hT1l ⊢
    have hi1 : BdyI w ob m v j T1 X := by
      obtain ⟨A, c, ys, hy, h2, h3, h4, h5, h6⟩ := hi
      refine ⟨A, c, ys, hy, boxed_stab h2 hst (fun h => by have := h6 _ h; omega), Kd.R_mono (R_stab (Kd.R_bound h3) hst (fun q hq h => hq.1.2 h)) (fun q hq => ⟨hq.1.1, fun h => ?_⟩), Stab.below hst h4 h4.size h4.size (fun b hb h => by have := h6 b h; omega), Nat.le_trans h5 hst.size, fun b hb => ?_⟩
      · rcases hT1 q h with h | h
        · exact hq.1.2 h
        · have := hq.2.2.1; omega
      · rcases hT1 b hb with h | h
        · exact h6 b h
        · omega
    have H1 := Lib.hid (And.intro hi1 (And.intro (fun b hb => hRb b (.inr hb)) (And.intro hseg hC2)))
    have hle : (encT m v (j + 1)).length ≤ 192 := Nat.le_trans (encT_le m v (j + 1)) HM.out.2.2.2.2.2
    rw [encT_next m v j f hseg, List.length_append] at hle
    have HLE := Lib.hid hle
    clear hi1 hi hT1 hst hRb hseg hC2 hj hT1D hT1l hle
    obtain ⟨n2, hn2⟩ : ∃ n2, (prt m f).length = n2 := ⟨_, rfl⟩
    have HN2 := Lib.hid hn2
    rw [hn2] at H1 hc2 ⊢
    clear hn2
    gi_wp2
    refine ⟨Below.refl _ _, fun W2 hs hsF => ?_⟩
    obtain ⟨hi1, hRb, hseg, hC2⟩ := H1.out
    have hi2 : BdyI w ob m v j T1 W2 := bdyI_step (Nat.le_of_lt hhb) hi1 (by exact StabN.mono hs (fun b hb => hb.elim (fun h => h.elim) .inr)) (fun b hb => .inl hb)
    obtain ⟨A, c, ys, hy, h2, h3, h4, h5, h6⟩ := hi2
    have hyl : ys.length + n2 ≤ 192 := by rw [hy, ← HN2.out]; exact HLE.out
    obtain ⟨v1, w1, hrun, R1, hg, hat⟩ := run_app_row (P := Tryz.prog) (W := W2) (t := 25) (e := 5) (ty := 25) (c := c2) .u8 Tryz.underlying25 infoB (by decide) (Kd.R_mono (Kd.R_bound h3) (ok' := fun q => ob + 5 ≤ q ∧ ¬ T1 q) (fun q hq => hq.1)) (C_int_stab hC2 hsF) (fun q hq => ⟨by have := hs.size; omega, fun h => by have := hRb q h; have := hs.size; omega⟩) (by omega) (by omega)
    have hown : ∀ q, (Value.slice A ys.length c).ownBlock = some q → ob + 5 ≤ q ∧ ¬ T1 q := fun q e => h3.1 q e
    have hyn : ys ++ prt m f = encT m v (j + 1) := by rw [encT_next m v j f hseg, hy]
    obtain ⟨A1, c1, rfl⟩ := Kd.R_slice R1
    have b1 := boxed_app h2 hg (fun q e => by have := (hown q e).1; omega)
    have hb1 : Below w.heap.size w w1 := h4.grown hg h4.size (fun q e => by have := (hown q e).1; omega)
    have hK : Keep (fun b => (b < w.heap.size ∨ b = ob + 1 ∨ b = ob + 2) ∨ T1 b ∨ b = ob + 3 ∨ b = ob + 3 + 1) W2 w1 := Keep.grown hg (fun q e h => by
      have := hown q e
      rcases h with (h | h | h) | h | h | h
      · omega
      · omega
      · omega
      · exact this.2 h
      · omega
      · omega)
    have HF := Lib.hid (And.intro R1 (And.intro b1 (And.intro hb1 (And.intro hK (And.intro hyn (And.intro h6 (And.intro (by have := hg.size; omega : ob + 3 ≤ w1.heap.size) hown)))))))
    have cO := h2.cell
    have cO1 := b1.cell
    have fO1 := b1.frozen
    obtain ⟨L, hL⟩ : ∃ L, (ys ++ prt m f).length = L := ⟨_, rfl⟩
    have HLL := Lib.hid hL
    rw [hL] at hrun
    clear hs hsF hi1 hRb hseg hC2 hy h2 h3 h4 h5 h6 R1 hg hat hown hyn b1 hb1 hK hL
    gi_wp2_with (gi_at_builtin; refine runIn_app (.tmp 21) (.tmp 22) 25 rfl rfl hrun ?_)
    obtain ⟨g1, g2, g3, g4, g5, g6, g7, g8⟩ := HF.out
    have st : Stab (fun b => b = ob) w1.heap.size w1 (w1.setCell ⟨ob, 0, none⟩ (.slice A1 L c1)) := (Stab.refl _ _ _).set1 0 _
    refine ⟨g4.trans (StabN.keep st (fun b hb _ h => ?_)), A1, c1, ys ++ prt m f, g5, ?_, R_stab g1 st (fun q hq h => by omega), st.one_below g3 g3.size g3.size (by omega), Nat.le_trans g7 st.size, g6⟩
    · subst h
      rcases hb with (h | h | h) | h | h | h
      · omega
      · omega
      · omega
      · have := g6 _ h; omega
      · omega
      · omega
    · rw [HLL.out]; exact g2.set _
  case done =>
    rintro D T X ⟨A, c, ys, hy, h2, h3, h4, h5, h6⟩ _ hD1 hD
    rw [hsY] at hD1
    rw [HM.out.2.2.2.1] at hy
    have cO := h2.cell
    have HE := Lib.hid (And.intro hy (And.intro h3 (And.intro h4 (And.intro hD hD1))))
    clear hy h2 h3 h4 h5 h6 hD
    go_wp2_with (fail)
    obtain ⟨hy, h3, h4, hD, hD1⟩ := HE.out
    have st := stab_shut (T := fun _ => False) (n := w.heap.size) hD (by omega)
    refine marks_ret (v := .tuple #[.slice A ys.length c, .int .i64 0]) (by simp [results, Tryz.results80, Act.put, go_sem]) (by simp [Act.put]) hD ⟨_, rfl, ?_, st.below h4 (Nat.le_refl _) h4.size (fun _ _ h => h)⟩
    rw [← hy]
    exact Kd.R_lower (Kd.R_mono (R_stab h3 st (fun _ _ h => h)) (fun _ _ => trivial)) (by omega)
  case stop =>
    rintro D c j T X hj h
    exact h.elim
end Go.Proofs.YtgdlpgakhhebeaaGreatDoor
end
section
set_option linter.unusedVariables false
set_option linter.unusedSimpArgs false
namespace Go.Proofs.YtgdlpgakhhebeaaGreatDoor
open Go.RowKit Go.Proofs.YtgdlpgakhhebeaaGreatDoorW.PrintWords Go.Proofs.YtgdlpgakhhebeaaGreatDoorW.PrintMore
attribute [local go_sem] Oper.semAt_some

/-- Between two parts. -/
def SizI (w : World) (ob : Nat) (m : Ms) (v : Int) (j : Nat) (T : Nat → Prop) (X : World) : Prop :=
  Boxed X ob 3 (.int .i64 ((encT m v j).length : Int)) ∧ Below w.heap.size w X ∧ ob + 3 ≤ X.heap.size ∧ ∀ b, T b → ob + 3 ≤ b
theorem sizI_step {w : World} {ob : Nat} {m : Ms} {v : Int} {j : Nat} {T T' : Nat → Prop} {X X' : World} (hob : w.heap.size ≤ ob) (h : SizI w ob m v j T X) (hs : StabN (Bk (ob + 3) T) X X') (hT : ∀ b, T' b → T b ∨ X.heap.size ≤ b) : SizI w ob m v j T' X' := by
  obtain ⟨h2, h4, h5, h6⟩ := h
  have hB : ∀ b, Bk (ob + 3) T b → ob + 3 ≤ b := fun b hb => by
    rcases hb with hb | rfl | rfl
    · exact h6 b hb
    · omega
    · omega
  refine ⟨boxed_stab h2 hs (fun h => by have := hB _ h; omega), Stab.below hs h4 h4.size h4.size (fun b hb h => by have := hB b h; omega), Nat.le_trans h5 hs.size, fun b hb => ?_⟩
  rcases hT b hb with h | h
  · exact h6 b h
  · omega
set_option maxRecDepth 100000 in
set_option maxHeartbeats 4000000 in
theorem size_call (m : Ms) (v : Int) (hv : v = 1 ∨ v = 2) (hk : chk m = 0) (w : World) (Ap : Option Addr) (cp : Nat) (Ac : Option Addr) (cc : Nat) (h : MsR w m Ap cp Ac cc) (hm : Fit m) :
    Calls Tryz.prog 28 #[mV m Ap cp Ac cc, .int .i64 v] w fun e w' => e = .returned (.int .i64 ((encM m v).length : Int)) ∧ Below w.heap.size w w' := by
  have hel := encM_len m v hv hm hk
  have hea := encT_all m v
  have bA : Below w.heap.size w ((w.alloc (.cells (m.cs Ap cp Ac cc) 69)).alloc (.cells #[.int .i64 0] 3)) := ((Below.refl _ w).alloc (Nat.le_refl _) _).alloc (by simp) _
  have hMo := al2_a w (.cells (m.cs Ap cp Ac cc) 69) (.cells #[.int .i64 0] 3)
  have HM := Lib.hid (And.intro h (And.intro hm (And.intro hk (And.intro hea (And.intro hel bA)))))
  have q0 : ((w.alloc (.cells (m.cs Ap cp Ac cc) 69)).alloc (.cells #[.int .i64 0] 3)).cell? ⟨w.heap.size, 0, none⟩ = some (.int .i64 m.k) := cell_at hMo rfl
  have q1 : ((w.alloc (.cells (m.cs Ap cp Ac cc) 69)).alloc (.cells #[.int .i64 0] 3)).cell? ⟨w.heap.size, 1, none⟩ = some (.int .i64 m.n0) := cell_at hMo rfl
  have q2 : ((w.alloc (.cells (m.cs Ap cp Ac cc) 69)).alloc (.cells #[.int .i64 0] 3)).cell? ⟨w.heap.size, 2, none⟩ = some (.int .i64 m.n1) := cell_at hMo rfl
  have q3 : ((w.alloc (.cells (m.cs Ap cp Ac cc) 69)).alloc (.cells #[.int .i64 0] 3)).cell? ⟨w.heap.size, 3, none⟩ = some (.int .i64 m.n2) := cell_at hMo rfl
  have q4 : ((w.alloc (.cells (m.cs Ap cp Ac cc) 69)).alloc (.cells #[.int .i64 0] 3)).cell? ⟨w.heap.size, 4, none⟩ = some (.int .i64 m.n3) := cell_at hMo rfl
  have q5 : ((w.alloc (.cells (m.cs Ap cp Ac cc) 69)).alloc (.cells #[.int .i64 0] 3)).cell? ⟨w.heap.size, 5, none⟩ = some (.int .i64 m.n4) := cell_at hMo rfl
  have q6 : ((w.alloc (.cells (m.cs Ap cp Ac cc) 69)).alloc (.cells #[.int .i64 0] 3)).cell? ⟨w.heap.size, 6, none⟩ = some (.int .i64 m.n5) := cell_at hMo rfl
  have q7 : ((w.alloc (.cells (m.cs Ap cp Ac cc) 69)).alloc (.cells #[.int .i64 0] 3)).cell? ⟨w.heap.size, 7, none⟩ = some (.slice Ap m.path.length cp) := cell_at hMo rfl
  have q8 : ((w.alloc (.cells (m.cs Ap cp Ac cc) 69)).alloc (.cells #[.int .i64 0] 3)).cell? ⟨w.heap.size, 8, none⟩ = some (.slice Ac m.cells.length cc) := cell_at hMo rfl
  have q9 : ((w.alloc (.cells (m.cs Ap cp Ac cc) 69)).alloc (.cells #[.int .i64 0] 3)).cell? ⟨w.heap.size, 9, none⟩ = some (.string m.text) := cell_at hMo rfl
  have q10 : ((w.alloc (.cells (m.cs Ap cp Ac cc) 69)).alloc (.cells #[.int .i64 0] 3)).cell? ⟨w.heap.size, 10, none⟩ = some (.string m.tag) := cell_at hMo rfl
  clear h hm bA hk hel hea hMo
  unfold mV
  unfold Ms.cs at *
  refine (callsIn_wide (n := 5)).1 (callsIn_of_wp_marks Tryz.func28 rfl trivial ?_ rfl)
  simp only [Tryz.ntmps28, List.size_toArray, List.length_cons, List.length_nil, Nat.reduceAdd, Nat.reduceSub, Array.replicate_succ, Array.replicate_zero, List.push_toArray, List.append_toArray, List.nil_append, List.cons_append]
  refine wpIn_wide.2 ?_
  go_wp2_with (fail)
  refine (partsOf_call m v _ Ap cp Ac cc).mono ?_
  rintro e wY ⟨rfl, rfl⟩
  clear q0 q1 q2 q3 q4 q5 q6 q7 q8 q9 q10
  go_wp2_with (fail)
  obtain ⟨ob, hob⟩ : ∃ ob, w.heap.size + 1 = ob := ⟨_, rfl⟩
  obtain ⟨w2, hw2⟩ : ∃ w2, w.alloc (.cells (m.cs Ap cp Ac cc) 69) = w2 := ⟨_, rfl⟩
  have hob2 : w2.heap.size = ob := by rw [← hw2, ← hob]; simp
  obtain ⟨Y, hY⟩ : ∃ Y, (((w2.alloc (.cells #[.int .i64 0] 3)).alloc (.cells (m.cs Ap cp Ac cc) 69)).alloc (.cells #[.int .i64 v] 3)) = Y := ⟨_, rfl⟩
  have hsY : Y.heap.size = ob + 3 := by rw [← hY, ← hob2]; simp
  have bO : Boxed Y ob 3 (.int .i64 0) := by rw [← hY, ← hob2]; exact al3_a w2 _ _ _
  have bM : Y.heap[ob + 1]? = some (.cells (m.cs Ap cp Ac cc) 69) := by rw [← hY, ← hob2]; exact al3_b w2 _ _ _
  have bV : Boxed Y (ob + 2) 3 (.int .i64 v) := by rw [← hY, ← hob2]; exact al3_c w2 _ _ _
  have hhb : w.heap.size < ob := by omega
  have hbw : Below w.heap.size w Y := by rw [← hY, ← hw2]; exact ((((Below.refl _ w).alloc (Nat.le_refl _) _).alloc (by simp) _).alloc (by simp; omega) _).alloc (by simp; omega) _
  show Code.wp _ _ _ _ (((((w.alloc (.cells (m.cs Ap cp Ac cc) 69))).alloc (.cells #[.int .i64 0] 3)).alloc (.cells (m.cs Ap cp Ac cc) 69)).alloc (.cells #[.int .i64 v] 3))
  rw [hw2, hY]
  try rw [hob2]
  try rw [hob]
  clear hY hob hob2 hw2
  refine wp_rangeN (gf := 95) (lb := #[.pointer (some ⟨ob + 1, 0, none⟩), .pointer (some ⟨ob + 1 + 1, 0, none⟩)]) rfl (enters_of Tryz.func95 (by kernel_rfl) rfl)
    (parts2 w Y (ob + 1) (ob + 2) m v hv HM.out.2.2.1 Ap cp Ac cc HM.out.1 HM.out.2.1 hbw bM bV) trivial (fun b hb => by rcases hb with hb | hb | hb <;> omega) (fun b hb => hb.elim) (fun k vs T B W h => by obtain ⟨_, _, _, _, rfl, _⟩ := h; rfl) (fun _ _ _ _ _ _ _ => trivial)
    (fun j T X => SizI w ob m v j T X) (fun _ _ _ _ => False) ?hI ?hIx ?h0 ?round ?done ?stop
  case hI =>
    intro j T T' X X' _ _ hi hs hT
    rw [hsY] at hs
    exact sizI_step (Nat.le_of_lt hhb) hi hs hT
  case hIx =>
    rintro c j T T' X X' _ _ h
    exact h.elim
  case h0 => exact ⟨bO, hbw, by omega, fun b h => h.elim⟩
  case round =>
    rintro lp nn j T T1 Wi X vs hj - - hi hT1 hst ⟨f, A2, c2, hseg, rfl, hc2, hC2⟩ hRb hlX hT1D hT1l
    rw [hsY] at hlX hT1D hT1l ⊢
    have hi1 : SizI w ob m v j T1 X := sizI_step (Nat.le_of_lt hhb) hi (StabN.mono hst (fun b hb => .inl hb)) hT1
    have hle : (encT m v (j + 1)).length ≤ 192 := Nat.le_trans (encT_le m v (j + 1)) HM.out.2.2.2.2.1.2
    have hnx := encT_next m v j f hseg
    have hln : (encT m v (j + 1)).length = (encT m v j).length + (prt m f).length := by rw [hnx, List.length_append]
    obtain ⟨a, ha⟩ : ∃ a, (encT m v j).length = a := ⟨_, rfl⟩
    obtain ⟨n2, hn2⟩ : ∃ n2, (prt m f).length = n2 := ⟨_, rfl⟩
    have hs2 : a + n2 ≤ 192 := by omega
    rw [ha, hn2] at hln
    have H1 := Lib.hid (And.intro hi1 (And.intro hln ha))
    rw [hn2] at hc2 ⊢
    have e1 : wrap64 ((a : Int) + (n2 : Int)) = ((a + n2 : Nat) : Int) := by unfold wrap64; omega
    clear hi1 hi hT1 hst hRb hseg hC2 hj hT1D hT1l hle hnx hln ha hn2
    gi_wp2
    refine ⟨Below.refl _ _, fun W2 hs hsF => ?_⟩
    have hi2 : SizI w ob m v j T1 W2 := sizI_step (Nat.le_of_lt hhb) H1.out.1 (by exact StabN.mono hs (fun b hb => hb.elim (fun h => h.elim) .inr)) (fun b hb => .inl hb)
    obtain ⟨h2, h4, h5, h6⟩ := hi2
    rw [H1.out.2.2] at h2
    have HF := Lib.hid (And.intro h2 (And.intro h4 (And.intro h5 h6)))
    have cO := h2.cell
    have fO := h2.frozen
    clear hs hsF h2 h4 h5 h6
    gi_wp2_with (fail)
    obtain ⟨g2, g4, g5, g6⟩ := HF.out
    have st : Stab (fun b => b = ob) W2.heap.size W2 (W2.setCell ⟨ob, 0, none⟩ (.int .i64 ((a + n2 : Nat) : Int))) := (Stab.refl _ _ _).set1 0 _
    refine ⟨StabN.keep st (fun b hb _ h => ?_), ?_, st.one_below g4 g4.size g4.size (by omega), Nat.le_trans g5 st.size, g6⟩
    · subst h
      rcases hb with (h | h | h) | h | h | h
      · omega
      · omega
      · omega
      · have := g6 _ h; omega
      · omega
      · omega
    · rw [H1.out.2.1]; exact g2.set _
  case done =>
    rintro D T X ⟨h2, h4, h5, h6⟩ _ hD1 hD
    rw [hsY] at hD1
    rw [HM.out.2.2.2.1] at h2
    have cO := h2.cell
    have HE := Lib.hid (And.intro h4 (And.intro hD hD1))
    clear h2 h4 h5 h6 hD
    go_wp2_with (fail)
    obtain ⟨h4, hD, hD1⟩ := HE.out
    have st := stab_shut (T := fun _ => False) (n := w.heap.size) hD (by omega)
    exact marks_ret (v := .int .i64 ((encM m v).length : Int)) (by simp [results, Tryz.results28, Act.put, go_sem]) (by simp [Act.put]) hD ⟨rfl, st.below h4 (Nat.le_refl _) h4.size (fun _ _ h => h)⟩
  case stop =>
    rintro D c j T X hj h
    exact h.elim
end Go.Proofs.YtgdlpgakhhebeaaGreatDoor
end
section
set_option linter.unusedVariables false
namespace Go.Proofs.YtgdlpgakhhebeaaGreatDoor
open Go

section
variable {F : Fence} {n : Nat} {P : Program} {ops : Array Oper} {Q : Exit → Act → World → Prop} {md : Region.Mode} {C : World → Prop} {d : Nat}

def wpAnyD (F : Fence) (n : Nat) (P : Program) (md : Region.Mode) (ops : Array Oper) (Q : Exit → Act → World → Prop) (C : World → Prop) (d : Nat) : Nat → Array Bool → Act → World → Prop
  | 0, listed, a, w => (listed.getD d true = false → C w) ∧ Region.ready md ops listed = [] ∧ Q .normal a w
  | fuel + 1, listed, a, w => (listed.getD d true = false → C w) ∧ (Region.ready md ops listed = [] → Q .normal a w) ∧ ∀ i ∈ Region.ready md ops listed, wpOpIn F n P ops Q i (wpAnyD F n P md ops Q C d fuel (listed.setIfInBounds i true)) a w
theorem wpAnyD.class : ∀ {fuel : Nat} {listed : Array Bool} {a : Act} {w : World}, wpAnyD F n P md ops Q C d fuel listed a w → listed.getD d true = false → C w
  | 0, _, _, _, h => h.1
  | _ + 1, _, _, _, h => h.1
theorem wpAnyIn_of_D : ∀ (fuel : Nat) (listed : Array Bool) (a : Act) (w : World), wpAnyD F n P md ops Q C d fuel listed a w → wpAnyIn F n P md ops Q fuel listed a w
  | 0, _, _, _, h => h.2
  | fuel + 1, _, _, _, h => ⟨h.2.1, fun i hi => wpOpIn_mono (fun a w => wpAnyIn_of_D fuel _ a w) (h.2.2 i hi)⟩

/-- Operation d comes behind i. -/
def behind (md : Region.Mode) (ops : Array Oper) (d i : Nat) : Bool := match ops[d]? with
  | some o => o.after.any fun e => Region.binds md e && e.on == i
  | none => false
theorem behind_spec {i : Nat} (h : behind md ops d i = true) {o : Oper} (ho : ops[d]? = some o) : ∃ e ∈ o.after, Region.binds md e = true ∧ e.on = i := by
  unfold behind at h
  rw [ho] at h
  obtain ⟨j, hj, he⟩ := Array.any_eq_true.1 h
  simp only [Bool.and_eq_true, beq_iff_eq] at he
  exact ⟨_, Array.getElem_mem hj, he.1, he.2⟩

theorem wpAnyD_first (hF : ∀ f, F.fn f) (hdf : noDeferB ops = true) {i : Nat} {oi : Oper} {v : Value} (hi : ops[i]? = some oi) (hdi : d ≠ i) (hsel : ∀ (j : Nat) (o : Oper) cs b, ops[j]? = some o → o.op ≠ .select cs b)
    (hQ : ∀ c a w, ¬ Q (.panic c) a w) (C' : World → Prop) (hC' : (∀ w, C' w) ∨ (C' = C ∧ behind md ops d i = true)) :
    ∀ (fuel : Nat) (listed : Array Bool) (a : Act) (w : World), ((∀ w, C' w) ∨ listed.getD d true = false) →
      (∀ j oj, ops[j]? = some oj → j ≠ i → listed.getD j true = false → (∀ e ∈ oj.after, Region.binds md e = true → e.on ≠ i) → oi.apart ops oj = true) →
      i ∈ Region.ready md ops listed → YieldsC P ops C' oi v a →
      wpAnyD F n P md ops Q C d fuel (listed.setIfInBounds i true) (a.put oi.dst v) w → wpAnyD F n P md ops Q C d (fuel + 1) listed a w := by
  have cls : ∀ {fuel : Nat} {listed : Array Bool} {a : Act} {w : World}, ((∀ w, C' w) ∨ listed.getD d true = false) → wpAnyD F n P md ops Q C d fuel (listed.setIfInBounds i true) a w → C' w := fun {fuel listed a w} hl H => by
    rcases hC' with h | ⟨rfl, hb⟩
    · exact h w
    · rcases hl with h | h
      · exact h w
      · exact H.class (by rw [getD_set_ne true (Ne.symm hdi)]; exact h)
  intro fuel
  induction fuel with
  | zero =>
    intro listed a w hl _ hr hy H
    refine ⟨fun h => H.class (by rw [getD_set_ne true (Ne.symm hdi)]; exact h), fun h => (by rw [h] at hr; cases hr), fun j hj => ?_⟩
    by_cases hji : j = i
    · subst hji; exact hy.wpOpIn hF hdf hi (cls hl H) H
    · have := ready_mono hj hji
      rw [H.2.1] at this
      cases this
  | succ fuel ih =>
    intro listed a w hl hfree hr hy H
    refine ⟨fun h => H.class (by rw [getD_set_ne true (Ne.symm hdi)]; exact h), fun h => (by rw [h] at hr; cases hr), fun j hj => ?_⟩
    by_cases hji : j = i
    · subst hji; exact hy.wpOpIn hF hdf hi (cls hl H) H
    · have h1 := H.2.2 j (ready_mono hj hji)
      obtain ⟨hjun, oj, hoj, hall⟩ := mem_ready.1 hj
      have hnot : ∀ e ∈ oj.after, Region.binds md e = true → e.on ≠ i := fun e he hb heq => by
        have h1 := hall e he hb
        have h0 := (mem_ready.1 hr).1
        rw [heq] at h1
        rcases Nat.lt_or_ge i listed.size with h' | h'
        · simp [h'] at h0 h1; rw [h0] at h1; cases h1
        · simp [Array.getElem?_eq_none h'] at h1
      have hl' : (∀ w, C' w) ∨ (listed.setIfInBounds j true).getD d true = false := by
        rcases hC' with h | ⟨_, hb⟩
        · exact .inl h
        · refine hl.imp id (fun h => ?_)
          by_cases hjd : j = d
          · subst hjd
            obtain ⟨e, he, hb2, heq⟩ := behind_spec hb hoj
            exact absurd heq (hnot e he hb2)
          · rw [getD_set_ne true hjd]; exact h
      have h2 := wpOpIn_putC hdf hoj (hfree j oj hoj hji hjun hnot) (fun cs b => hsel i oi cs b hi) (fun cs b => hsel j oj cs b hoj) hQ hy h1
      have hfree' : ∀ k ok, ops[k]? = some ok → k ≠ i → (listed.setIfInBounds j true).getD k true = false →
          (∀ e ∈ ok.after, Region.binds md e = true → e.on ≠ i) → oi.apart ops ok = true := fun k ok hk hki hun hno => by
        refine hfree k ok hk hki ?_ hno
        by_cases hjk : j = k
        · subst hjk; exact hjun
        · rw [getD_set_ne true hjk] at hun; exact hun
      refine wpOpIn_mono (fun a' w' h3 => ih (listed.setIfInBounds j true) a' w' hl' hfree' (ready_mono hr (Ne.symm hji)) h3.1 ?_) h2
      rw [Array.setIfInBounds_comm _ _ hji]
      exact h3.2

/-- The walk in our order: (number, 0 what asks for no world, 1 what reads ahead of d, 2 what does more). -/
def wpHD (F : Fence) (n : Nat) (P : Program) (ops : Array Oper) (Q : Exit → Act → World → Prop) (C : World → Prop) (d : Nat) : Bool → List (Nat × Nat) → Act → World → Prop
  | live, [], a, w => (live = true → C w) ∧ Q .normal a w
  | live, (i, 0) :: r, a, w => ∃ o v, ops[i]? = some o ∧ YieldsC P ops (fun _ => True) o v a ∧ wpHD F n P ops Q C d live r (a.put o.dst v) w
  | live, (i, 1) :: r, a, w => ∃ o v, ops[i]? = some o ∧ YieldsC P ops C o v a ∧ wpHD F n P ops Q C d live r (a.put o.dst v) w
  | live, (i, _ + 2) :: r, a, w => (live = true → C w) ∧ wpOpIn F n P ops Q i (wpHD F n P ops Q C d (live && i != d) r) a w
def hoistDB (md : Region.Mode) (ops : Array Oper) (d : Nat) : Bool → List (Nat × Nat) → Array Bool → Bool
  | live, [], listed => (Region.ready md ops listed).isEmpty && (listed.getD d true == !live)
  | live, (i, 0) :: r, listed => i != d && (Region.ready md ops listed).contains i && Region.free md ops listed i && hoistDB md ops d live r (listed.setIfInBounds i true) && (listed.getD d true == !live)
  | live, (i, 1) :: r, listed => i != d && live && behind md ops d i && (Region.ready md ops listed).contains i && Region.free md ops listed i && hoistDB md ops d live r (listed.setIfInBounds i true) && (listed.getD d true == !live)
  | live, (i, _ + 2) :: r, listed => Region.ready md ops listed == [i] && hoistDB md ops d (live && i != d) r (listed.setIfInBounds i true) && (listed.getD d true == !live)
theorem wpAnyD_of_H (hF : ∀ f, F.fn f) (hdf : noDeferB ops = true) (hs : Region.noSelect ops = true) (hQ : ∀ c a w, ¬ Q (.panic c) a w) : ∀ (l : List (Nat × Nat)) (live : Bool) (listed : Array Bool) (a : Act) (w : World), hoistDB md ops d live l listed = true → wpHD F n P ops Q C d live l a w → wpAnyD F n P md ops Q C d l.length listed a w
  | [], live, listed, a, w, hB, h => by
    simp only [hoistDB, Bool.and_eq_true, beq_iff_eq] at hB
    exact ⟨fun hl => h.1 (by rw [hB.2] at hl; simpa using hl), by simpa using hB.1, h.2⟩
  | (i, 0) :: r, live, listed, a, w, hB, h => by
    simp only [hoistDB, Bool.and_eq_true, bne_iff_ne, ne_eq, beq_iff_eq] at hB
    obtain ⟨⟨⟨⟨hid, hc⟩, hf⟩, hr⟩, hl⟩ := hB
    obtain ⟨o, v, hi, hy, hK⟩ := h
    exact wpAnyD_first hF hdf hi (Ne.symm hid) (Region.noSelect_spec hs) hQ (fun _ => True) (.inl (fun _ => trivial)) r.length listed a w (.inl (fun _ => trivial)) (Region.free_spec hi hf) (by simpa using hc) hy (wpAnyD_of_H hF hdf hs hQ r live _ _ _ hr hK)
  | (i, 1) :: r, live, listed, a, w, hB, h => by
    simp only [hoistDB, Bool.and_eq_true, bne_iff_ne, ne_eq, beq_iff_eq] at hB
    obtain ⟨⟨⟨⟨⟨⟨hid, hlv⟩, hbe⟩, hc⟩, hf⟩, hr⟩, hl⟩ := hB
    obtain ⟨o, v, hi, hy, hK⟩ := h
    exact wpAnyD_first hF hdf hi (Ne.symm hid) (Region.noSelect_spec hs) hQ C (.inr ⟨rfl, hbe⟩) r.length listed a w (.inr (by rw [hl, hlv]; rfl)) (Region.free_spec hi hf) (by simpa using hc) hy (wpAnyD_of_H hF hdf hs hQ r live _ _ _ hr hK)
  | (i, k + 2) :: r, live, listed, a, w, hB, h => by
    simp only [hoistDB, Bool.and_eq_true, beq_iff_eq] at hB
    show (listed.getD d true = false → C w) ∧ (Region.ready md ops listed = [] → Q .normal a w) ∧ ∀ i ∈ Region.ready md ops listed, wpOpIn F n P ops Q i (wpAnyD F n P md ops Q C d r.length (listed.setIfInBounds i true)) a w
    refine ⟨fun hl => h.1 (by rw [hB.2] at hl; simpa using hl), fun h0 => (by rw [hB.1.1] at h0; cases h0), fun j hj => ?_⟩
    rw [hB.1.1] at hj
    obtain rfl : j = i := by simpa using hj
    exact wpOpIn_mono (fun a w hw => wpAnyD_of_H hF hdf hs hQ r _ _ _ _ hB.1.2 hw) h.2
/-- THE RULE. -/
theorem wpIn_region_hoistD (d : Nat) (l : List (Nat × Nat)) (C : World → Prop) {id : Nat} {L : List Oper} {Q : Exit → Act → World → Prop} {a : Act} {w : World} (hF : ∀ f, F.fn f) (hm : P.follows .mixedOrders = true)
    (hB : (noDeferB L.toArray && Region.noSelect L.toArray && (l.length == L.toArray.size) && hoistDB .any L.toArray d true l (Array.replicate L.toArray.size false)) = true)
    (h : wpHD F n P L.toArray (NoPanic Q) C d true l a w.drew) : (Code.region id L.toArray true).wpIn F n P Q a w := by
  simp only [Bool.and_eq_true, beq_iff_eq] at hB
  refine wpIn_mono (Q := NoPanic Q) (wpIn_region_any hm ?_) NoPanic.imp
  have := wpAnyIn_of_D _ _ _ _ (wpAnyD_of_H hF hB.1.1.1 hB.1.1.2 (fun c a w h => h) l true _ a w.drew hB.2 h)
  rw [hB.1.2] at this
  exact this
theorem wp_region_hoistD (d : Nat) (l : List (Nat × Nat)) (C : World → Prop) {id : Nat} {L : List Oper} {Q : Exit → Act → World → Prop} {a : Act} {w : World} (hm : P.follows .mixedOrders = true)
    (hB : (noDeferB L.toArray && Region.noSelect L.toArray && (l.length == L.toArray.size) && hoistDB .any L.toArray d true l (Array.replicate L.toArray.size false)) = true)
    (h : wpHD Fence.wide 0 P L.toArray (NoPanic Q) C d true l a w.drew) : (Code.region id L.toArray true).wp P Q a w :=
  (wpIn_wide (n := 0)).1 (wpIn_region_hoistD d l C (fun _ => trivial) hm hB h)

/-- Steps, the frame written out. -/
theorem wpD_readL {live : Bool} {i e : Nat} {o : Oper} {r : List (Nat × Nat)} {T : List Value} {D : List Deferred} {w : World} (v : Value) (hi : ops[i]? = some o) (hd : o.dst = some e) (hw : Region.wanted o (yielded ops T.toArray) = true) (hv : ∀ w', C w' → readUpon w' v ((execOp (Act.eval { tmps := T.toArray, defers := D }) o).run P w'))
    (h : wpHD F n P ops Q C d live r { tmps := (T.set e v).toArray, defers := D } w) : wpHD F n P ops Q C d live ((i, 1) :: r) { tmps := T.toArray, defers := D } w :=
  ⟨o, v, hi, .inl ⟨hw, hv⟩, by rw [hd]; simpa [Act.put] using h⟩
theorem wpD_pureL {live : Bool} {i e : Nat} {o : Oper} {r : List (Nat × Nat)} {T : List Value} {D : List Deferred} {w : World} (v : Value) (hi : ops[i]? = some o) (hd : o.dst = some e) (hw : Region.wanted o (yielded ops T.toArray) = true) (hv : ∀ w', readUpon w' v ((execOp (Act.eval { tmps := T.toArray, defers := D }) o).run P w'))
    (h : wpHD F n P ops Q C d live r { tmps := (T.set e v).toArray, defers := D } w) : wpHD F n P ops Q C d live ((i, 0) :: r) { tmps := T.toArray, defers := D } w :=
  ⟨o, v, hi, .inl ⟨hw, fun w' _ => hv w'⟩, by rw [hd]; simpa [Act.put] using h⟩
theorem wpD_do {live : Bool} {i : Nat} {o : Oper} {r : List (Nat × Nat)} {a : Act} {w : World} (hi : ops[i]? = some o) (hC : live = true → C w) (hw : Region.wanted o (yielded ops a.tmps) = true)
    (h : ∀ K : Act → World → Prop, (∀ a w, wpHD F n P ops Q C d (live && i != d) r a w → K a w) → o.wpIn F n P a w K Q) : wpHD F n P ops Q C d live ((i, 2) :: r) a w := by
  refine ⟨hC, ?_⟩
  unfold wpOpIn
  rw [hi]
  simp only [hw, if_true]
  exact h _ (fun _ _ h => h)
theorem wpD_callL {live : Bool} {i e : Nat} {o : Oper} {r : List (Nat × Nat)} {T : List Value} {D : List Deferred} {w : World} {f : FuncId} {args : Array Value} (hF : ∀ f, F.fn f) (hdep : F.depth.isSome = false) (hi : ops[i]? = some o) (hd : o.dst = some e) (hC : live = true → C w) (hw : Region.wanted o (yielded ops T.toArray) = true) (hnd : ∀ c, o.op ≠ .defer c)
    (hr : (execOp (Act.eval { tmps := T.toArray, defers := D }) o).run P w = .ok (.enter f args) w) (h : CallsIn F (n - 1) P f args w fun e' w' => ∃ v, e' = .returned v ∧ wpHD F n P ops Q C d (live && i != d) r { tmps := (T.set e v).toArray, defers := D } w') : wpHD F n P ops Q C d live ((i, 2) :: r) { tmps := T.toArray, defers := D } w :=
  wpD_do hi hC hw (fun K hK => wpIn_call hF hdep hnd hr (h.mono fun e' w' ⟨v, he, hk⟩ => ⟨v, he, hK _ _ (by rw [hd]; simpa [Act.put] using hk)⟩))
theorem wpD_valueL {live : Bool} {i e : Nat} {o : Oper} {r : List (Nat × Nat)} {T : List Value} {D : List Deferred} {w w' : World} (v : Value) (hF : ∀ f, F.fn f) (hi : ops[i]? = some o) (hd : o.dst = some e) (hC : live = true → C w) (hw : Region.wanted o (yielded ops T.toArray) = true) (hnd : ∀ c, o.op ≠ .defer c)
    (hr : (execOp (Act.eval { tmps := T.toArray, defers := D }) o).run P w = .ok (.value v) w') (h : wpHD F n P ops Q C d (live && i != d) r { tmps := (T.set e v).toArray, defers := D } w') : wpHD F n P ops Q C d live ((i, 2) :: r) { tmps := T.toArray, defers := D } w :=
  wpD_do hi hC hw (fun K hK => wpIn_value hF hnd hr (hK _ _ (by rw [hd]; simpa [Act.put] using h)))
theorem wpD_storeL {live : Bool} {i : Nat} {o : Oper} {r : List (Nat × Nat)} {a : Act} {w w' : World} (hF : ∀ f, F.fn f) (hi : ops[i]? = some o) (hd : o.dst = none) (hC : live = true → C w) (hw : Region.wanted o (yielded ops a.tmps) = true) (hnd : ∀ c, o.op ≠ .defer c)
    (hr : (execOp a.eval o).run P w = .ok .skip w') (h : wpHD F n P ops Q C d (live && i != d) r a w') : wpHD F n P ops Q C d live ((i, 2) :: r) a w :=
  wpD_do hi hC hw (fun K hK => wpIn_store hF hnd hr (hK _ _ (by rw [hd]; exact h)))
theorem wpD_end {a : Act} {w : World} (h : Q .normal a w) : wpHD F n P ops (NoPanic Q) C d false [] a w := ⟨fun h => (by cases h), h⟩
end
end Go.Proofs.YtgdlpgakhhebeaaGreatDoor
end
