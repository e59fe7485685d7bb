/- serial.Newest and serial.Oldest: what they hand back. -/
import Derived.Test.YtdgphdkebegidaaSeq
set_option linter.unusedVariables false
set_option linter.unusedSimpArgs false
namespace Go.Proofs.Ytdgphdkebegidaa
open Go.RowKit Go.Proofs.YtdgphdkebegidaaW.PrintWords
attribute [local go_sem] Oper.semAt_some

/-- The one that is left, when each that is better is taken. -/
def takes (bt : Int → Int → Bool) (b : Int) (l : List Int) : Int := l.foldl (fun b x => if bt x b then x else b) b
theorem takes_snoc (bt : Int → Int → Bool) (b x : Int) (l : List Int) : takes bt b (l ++ [x]) = if bt x (takes bt b l) then x else takes bt b l := by
  unfold takes
  rw [List.foldl_append]
  rfl
def tak (bt : Int → Int → Bool) (l : List Int) : Int × Bool := match l with | [] => (0, false) | x :: r => (takes bt x r, true)

def TakI (gf : Nat) (bt : Int → Int → Bool) (x0 : Int) (r : List Int) (w : World) (k : Nat) (W : World) : Prop :=
  ∃ b : Int, b = takes bt x0 (r.take k) ∧ Boxed W (w.heap.size + 1) 22 (.int .u32 b) ∧ Boxed W w.heap.size 26 (.func (.func gf) #[] #[]) ∧ Below w.heap.size w W


set_option maxRecDepth 100000 in
set_option maxHeartbeats 2000000 in
theorem taken_13 (A : Option Addr) (c : Nat) (l : List Int) (w : World) (hr : Kd.C (Kd.int .u32) w A l.length l) (hc : l.length ≤ c) (hlen : l.length ≤ 1000000) :
    Calls Try.prog 21 #[.slice A l.length c, .func (.func 13) #[] #[]] w fun e w' => e = .returned (.tuple #[.int .u32 (tak (aft) l).1, .bool (tak (aft) l).2]) ∧ Below w.heap.size w w' := by
  cases l with
  | nil =>
    go_enter Try.func21, Try.ntmps21
    go_wp2
    go_step3
    go_wp2
    rw [Exit.noGoto_ret]
    go_ret2
    exact ⟨rfl, ((Below.refl _ w).alloc (Nat.le_refl _) _)⟩
  | cons x0 r =>
    obtain ⟨ad, rfl, hcell⟩ := Kd.at_int hr 0 (by omega) (by simp)
    rw [show (0 : Int).toNat = 0 from rfl, Addr.add_zero'] at hcell
    have e0 : rd (x0 :: r) 0 = x0 := rfl
    rw [e0] at hcell
    have hl1 : (x0 :: r).length = r.length + 1 := rfl
    rw [hl1] at hr hc hlen ⊢
    have hcell2 := cell_al hcell (.cells #[.func (.func 13) #[] #[]] 26)
    refine (callsIn_wide (n := 5)).1 (callsIn_of_wp_marks Try.func21 rfl trivial ?_ rfl)
    simp only [Try.ntmps21, List.size_toArray, List.length_cons, List.length_nil, Nat.reduceAdd, Nat.reduceSub, Array.replicate_succ, Array.replicate_zero, List.push_toArray, List.append_toArray, List.nil_append, List.cons_append]
    refine wpIn_wide.2 ?_
    have t1 : ((r.length : Int) + 1 == 0) = false := by simp; omega
    have t2 : (((r.length + 1 : Nat) : Int) == 0) = false := by simp; omega
    by_cases hc1 : c = 1
    · have HR0 := Lib.hid (show r.length = 0 by omega)
      have hCr : (Kd.int .u32).C w (some ad) r.length r := ⟨rfl, by have := HR0.out; omega, fun h => absurd HR0.out (by omega)⟩
      subst hc1
      clear hc
      go_wp2
      go_step3
      go_wp2
      go_step3
      go_wp2_with (go_at_call 24; refine (values_call _ _ _ _).mono ?_; rintro e w' ⟨rfl, rfl⟩)
      have hbW : Below w.heap.size w (((w.alloc (.cells #[.func (.func 13) #[] #[]] 26)).alloc (.cells #[.int .u32 x0] 22)).alloc (.cells #[.slice (some ad) r.length 0] 29)) := (((Below.refl _ w).alloc (Nat.le_refl _) _).alloc (by simp) _).alloc (by simp; omega) _
      obtain ⟨w2, hw2⟩ : ∃ w2, (((w.alloc (.cells #[.func (.func 13) #[] #[]] 26)).alloc (.cells #[.int .u32 x0] 22)).alloc (.cells #[.slice (some ad) r.length 0] 29)) = w2 := ⟨_, rfl⟩
      have hs2 : w2.heap.size = w.heap.size + 3 := by rw [← hw2]; simp
      have bF : Boxed w2 w.heap.size 26 (.func (.func 13) #[] #[]) := by rw [← hw2]; exact ((Boxed.new w 26 _).alloc _).alloc _
      have bB : Boxed w2 (w.heap.size + 1) 22 (.int .u32 x0) := by rw [← hw2]; have := (Boxed.new (w.alloc (.cells #[.func (.func 13) #[] #[]] 26)) 22 (.int .u32 x0)).alloc (.cells #[.slice (some ad) r.length 0] 29); rwa [World.size_alloc] at this
      have bS : Boxed w2 (w.heap.size + 2) 29 (.slice (some ad) r.length 0) := by rw [← hw2]; have := Boxed.new ((w.alloc (.cells #[.func (.func 13) #[] #[]] 26)).alloc (.cells #[.int .u32 x0] 22)) 29 (.slice (some ad) r.length 0); rwa [World.size_alloc, World.size_alloc] at this
      rw [hw2] at hbW ⊢
      refine wp_range0 (gf := 25) (lb := #[.pointer (some ⟨w.heap.size + 2, 0, none⟩)]) rfl (enters_of Try.func25 (by kernel_rfl) rfl)
        (values1 w w2 (w.heap.size + 2) (some ad) 0 r bS.cell hCr (by omega) hbW) (fun b hb => by rcases hb with hb | hb <;> omega) (fun k vs T B W h => by obtain ⟨_, _, rfl⟩ := h; rfl)
        (TakI 13 (aft) x0 r w) (fun _ _ _ => False) ?hI (fun _ _ _ _ h _ => h) ?h0 ?round ?done ?stop
      case hI =>
        rintro k W W' ⟨b, h1, h2, h3, h4⟩ hs
        exact ⟨b, h1, boxed_stab h2 hs (fun h => h), boxed_stab h3 hs (fun h => h), hs.below h4 (by omega) h4.size (fun _ _ h => h)⟩
      case h0 => exact ⟨x0, rfl, bB, bF, hbW⟩
      case round =>
        rintro l n k T W0 X vs hk ⟨b, h1, h2, h3, h4⟩ hst ⟨x, hx, rfl⟩ hRb
        have H1 := Lib.hid h1
        have HX := Lib.hid hx
        clear h1 hx
        gi_wp2
        refine ⟨Below.refl _ _, fun W2 hs => ?_⟩
        have hs02 := hst.trans hs (fun b h => h.elim)
        have b2 := boxed_stab h2 hs02 (fun h => h)
        have b3 := boxed_stab h3 hs02 (fun h => h)
        have hB4 : Below w.heap.size w W2 := hs02.below h4 (by omega) h4.size (fun _ _ h => h)
        have c2 := b2.cell
        have f2 := b2.frozen
        have c3 := b3.cell
        have HS := Lib.hid (And.intro hs02 hB4)
        clear h2 h3 h4 hs02 hB4 hst hs
        have htk : takes (aft) x0 (r.take (k + 1)) = if (aft) x b = true then x else b := by
          rw [List.take_add_one, HX.out, H1.out]
          exact takes_snoc _ _ _ _
        have HTK := Lib.hid htk
        clear htk
        by_cases hbt : (aft) x b = true
        · have HBT := Lib.hid hbt
          have hb1 : aft x b = true := hbt
          clear hbt
          gi_wp2_with (gi_at_call 13; refine (CallsIn.inRound l (callsIn_wide.2 (after_call _ _ _))).mono ?_; rintro e w' ⟨rfl, rfl⟩)
          exact ⟨Keep.setCell _ (by simp) _, Books.setCell _ _ _, x, by rw [HTK.out, if_pos HBT.out], b2.set _, b3.kept (grownBy_setCell' W2 (w.heap.size + 1) _) (by simp), HS.out.2.setCell (p := ⟨w.heap.size + 1, 0, none⟩) (by simp) _⟩
        · have HBT := Lib.hid hbt
          have hb1 : aft x b = false := by simpa using hbt
          clear hbt
          gi_wp2_with (gi_at_call 13; refine (CallsIn.inRound l (callsIn_wide.2 (after_call _ _ _))).mono ?_; rintro e w' ⟨rfl, rfl⟩)
          exact ⟨Keep.refl _ _, Books.refl _, b, by rw [HTK.out, if_neg HBT.out], b2, b3, HS.out.2⟩
      case done =>
        rintro D W ⟨b, h1, h2, h3, h4⟩ hD hd
        have hcb := h2.cell
        have HH := Lib.hid (And.intro h1 (And.intro h2 (And.intro h4 hd)))
        clear h1 h2 h3 h4 hd
        go_wp2
        rw [Exit.noGoto_ret]
        refine marks_ret (v := .tuple #[.int .u32 b, .bool true]) (by simp [results, Try.results21, Act.put, go_sem]) (by simp [Act.put]) HH.out.2.2.2 ⟨?_, ?_⟩
        · have := HH.out.1
          rw [List.take_length] at this
          rw [this]; rfl
        · exact (stab_shut (T := fun _ => False) (n := w.heap.size) HH.out.2.2.2 (by omega)).below HH.out.2.2.1 (Nat.le_refl _) HH.out.2.2.1.size (fun _ _ h => h)
      case stop =>
        rintro D c k W _ h
        exact h.elim
    · have hCr : (Kd.int .u32).C w (some ⟨ad.block, ad.off + 1, none⟩) r.length r := by
        have := C_piece hr rfl 1 r.length (by omega)
        rwa [show ((x0 :: r).drop 1).take r.length = r from by simp] at this
      have hc2 : ¬ 1 = c := by omega
      go_wp2
      go_step3
      go_wp2
      go_step3
      go_wp2_with (go_at_call 24; refine (values_call _ _ _ _).mono ?_; rintro e w' ⟨rfl, rfl⟩)
      have hbW : Below w.heap.size w (((w.alloc (.cells #[.func (.func 13) #[] #[]] 26)).alloc (.cells #[.int .u32 x0] 22)).alloc (.cells #[.slice (some ⟨ad.block, ad.off + 1, none⟩) r.length (c - 1)] 29)) := (((Below.refl _ w).alloc (Nat.le_refl _) _).alloc (by simp) _).alloc (by simp; omega) _
      obtain ⟨w2, hw2⟩ : ∃ w2, (((w.alloc (.cells #[.func (.func 13) #[] #[]] 26)).alloc (.cells #[.int .u32 x0] 22)).alloc (.cells #[.slice (some ⟨ad.block, ad.off + 1, none⟩) r.length (c - 1)] 29)) = w2 := ⟨_, rfl⟩
      have hs2 : w2.heap.size = w.heap.size + 3 := by rw [← hw2]; simp
      have bF : Boxed w2 w.heap.size 26 (.func (.func 13) #[] #[]) := by rw [← hw2]; exact ((Boxed.new w 26 _).alloc _).alloc _
      have bB : Boxed w2 (w.heap.size + 1) 22 (.int .u32 x0) := by rw [← hw2]; have := (Boxed.new (w.alloc (.cells #[.func (.func 13) #[] #[]] 26)) 22 (.int .u32 x0)).alloc (.cells #[.slice (some ⟨ad.block, ad.off + 1, none⟩) r.length (c - 1)] 29); rwa [World.size_alloc] at this
      have bS : Boxed w2 (w.heap.size + 2) 29 (.slice (some ⟨ad.block, ad.off + 1, none⟩) r.length (c - 1)) := by rw [← hw2]; have := Boxed.new ((w.alloc (.cells #[.func (.func 13) #[] #[]] 26)).alloc (.cells #[.int .u32 x0] 22)) 29 (.slice (some ⟨ad.block, ad.off + 1, none⟩) r.length (c - 1)); rwa [World.size_alloc, World.size_alloc] at this
      rw [hw2] at hbW ⊢
      refine wp_range0 (gf := 25) (lb := #[.pointer (some ⟨w.heap.size + 2, 0, none⟩)]) rfl (enters_of Try.func25 (by kernel_rfl) rfl)
        (values1 w w2 (w.heap.size + 2) (some ⟨ad.block, ad.off + 1, none⟩) (c - 1) r bS.cell hCr (by omega) hbW) (fun b hb => by rcases hb with hb | hb <;> omega) (fun k vs T B W h => by obtain ⟨_, _, rfl⟩ := h; rfl)
        (TakI 13 (aft) x0 r w) (fun _ _ _ => False) ?hI (fun _ _ _ _ h _ => h) ?h0 ?round ?done ?stop
      case hI =>
        rintro k W W' ⟨b, h1, h2, h3, h4⟩ hs
        exact ⟨b, h1, boxed_stab h2 hs (fun h => h), boxed_stab h3 hs (fun h => h), hs.below h4 (by omega) h4.size (fun _ _ h => h)⟩
      case h0 => exact ⟨x0, rfl, bB, bF, hbW⟩
      case round =>
        rintro l n k T W0 X vs hk ⟨b, h1, h2, h3, h4⟩ hst ⟨x, hx, rfl⟩ hRb
        have H1 := Lib.hid h1
        have HX := Lib.hid hx
        clear h1 hx
        gi_wp2
        refine ⟨Below.refl _ _, fun W2 hs => ?_⟩
        have hs02 := hst.trans hs (fun b h => h.elim)
        have b2 := boxed_stab h2 hs02 (fun h => h)
        have b3 := boxed_stab h3 hs02 (fun h => h)
        have hB4 : Below w.heap.size w W2 := hs02.below h4 (by omega) h4.size (fun _ _ h => h)
        have c2 := b2.cell
        have f2 := b2.frozen
        have c3 := b3.cell
        have HS := Lib.hid (And.intro hs02 hB4)
        clear h2 h3 h4 hs02 hB4 hst hs
        have htk : takes (aft) x0 (r.take (k + 1)) = if (aft) x b = true then x else b := by
          rw [List.take_add_one, HX.out, H1.out]
          exact takes_snoc _ _ _ _
        have HTK := Lib.hid htk
        clear htk
        by_cases hbt : (aft) x b = true
        · have HBT := Lib.hid hbt
          have hb1 : aft x b = true := hbt
          clear hbt
          gi_wp2_with (gi_at_call 13; refine (CallsIn.inRound l (callsIn_wide.2 (after_call _ _ _))).mono ?_; rintro e w' ⟨rfl, rfl⟩)
          exact ⟨Keep.setCell _ (by simp) _, Books.setCell _ _ _, x, by rw [HTK.out, if_pos HBT.out], b2.set _, b3.kept (grownBy_setCell' W2 (w.heap.size + 1) _) (by simp), HS.out.2.setCell (p := ⟨w.heap.size + 1, 0, none⟩) (by simp) _⟩
        · have HBT := Lib.hid hbt
          have hb1 : aft x b = false := by simpa using hbt
          clear hbt
          gi_wp2_with (gi_at_call 13; refine (CallsIn.inRound l (callsIn_wide.2 (after_call _ _ _))).mono ?_; rintro e w' ⟨rfl, rfl⟩)
          exact ⟨Keep.refl _ _, Books.refl _, b, by rw [HTK.out, if_neg HBT.out], b2, b3, HS.out.2⟩
      case done =>
        rintro D W ⟨b, h1, h2, h3, h4⟩ hD hd
        have hcb := h2.cell
        have HH := Lib.hid (And.intro h1 (And.intro h2 (And.intro h4 hd)))
        clear h1 h2 h3 h4 hd
        go_wp2
        rw [Exit.noGoto_ret]
        refine marks_ret (v := .tuple #[.int .u32 b, .bool true]) (by simp [results, Try.results21, Act.put, go_sem]) (by simp [Act.put]) HH.out.2.2.2 ⟨?_, ?_⟩
        · have := HH.out.1
          rw [List.take_length] at this
          rw [this]; rfl
        · exact (stab_shut (T := fun _ => False) (n := w.heap.size) HH.out.2.2.2 (by omega)).below HH.out.2.2.1 (Nat.le_refl _) HH.out.2.2.1.size (fun _ _ h => h)
      case stop =>
        rintro D c k W _ h
        exact h.elim

set_option maxRecDepth 100000 in
set_option maxHeartbeats 2000000 in
theorem taken_22 (A : Option Addr) (c : Nat) (l : List Int) (w : World) (hr : Kd.C (Kd.int .u32) w A l.length l) (hc : l.length ≤ c) (hlen : l.length ≤ 1000000) :
    Calls Try.prog 21 #[.slice A l.length c, .func (.func 22) #[] #[]] w fun e w' => e = .returned (.tuple #[.int .u32 (tak (fun a b => aft b a) l).1, .bool (tak (fun a b => aft b a) l).2]) ∧ Below w.heap.size w w' := by
  cases l with
  | nil =>
    go_enter Try.func21, Try.ntmps21
    go_wp2
    go_step3
    go_wp2
    rw [Exit.noGoto_ret]
    go_ret2
    exact ⟨rfl, ((Below.refl _ w).alloc (Nat.le_refl _) _)⟩
  | cons x0 r =>
    obtain ⟨ad, rfl, hcell⟩ := Kd.at_int hr 0 (by omega) (by simp)
    rw [show (0 : Int).toNat = 0 from rfl, Addr.add_zero'] at hcell
    have e0 : rd (x0 :: r) 0 = x0 := rfl
    rw [e0] at hcell
    have hl1 : (x0 :: r).length = r.length + 1 := rfl
    rw [hl1] at hr hc hlen ⊢
    have hcell2 := cell_al hcell (.cells #[.func (.func 22) #[] #[]] 26)
    refine (callsIn_wide (n := 5)).1 (callsIn_of_wp_marks Try.func21 rfl trivial ?_ rfl)
    simp only [Try.ntmps21, List.size_toArray, List.length_cons, List.length_nil, Nat.reduceAdd, Nat.reduceSub, Array.replicate_succ, Array.replicate_zero, List.push_toArray, List.append_toArray, List.nil_append, List.cons_append]
    refine wpIn_wide.2 ?_
    have t1 : ((r.length : Int) + 1 == 0) = false := by simp; omega
    have t2 : (((r.length + 1 : Nat) : Int) == 0) = false := by simp; omega
    by_cases hc1 : c = 1
    · have HR0 := Lib.hid (show r.length = 0 by omega)
      have hCr : (Kd.int .u32).C w (some ad) r.length r := ⟨rfl, by have := HR0.out; omega, fun h => absurd HR0.out (by omega)⟩
      subst hc1
      clear hc
      go_wp2
      go_step3
      go_wp2
      go_step3
      go_wp2_with (go_at_call 24; refine (values_call _ _ _ _).mono ?_; rintro e w' ⟨rfl, rfl⟩)
      have hbW : Below w.heap.size w (((w.alloc (.cells #[.func (.func 22) #[] #[]] 26)).alloc (.cells #[.int .u32 x0] 22)).alloc (.cells #[.slice (some ad) r.length 0] 29)) := (((Below.refl _ w).alloc (Nat.le_refl _) _).alloc (by simp) _).alloc (by simp; omega) _
      obtain ⟨w2, hw2⟩ : ∃ w2, (((w.alloc (.cells #[.func (.func 22) #[] #[]] 26)).alloc (.cells #[.int .u32 x0] 22)).alloc (.cells #[.slice (some ad) r.length 0] 29)) = w2 := ⟨_, rfl⟩
      have hs2 : w2.heap.size = w.heap.size + 3 := by rw [← hw2]; simp
      have bF : Boxed w2 w.heap.size 26 (.func (.func 22) #[] #[]) := by rw [← hw2]; exact ((Boxed.new w 26 _).alloc _).alloc _
      have bB : Boxed w2 (w.heap.size + 1) 22 (.int .u32 x0) := by rw [← hw2]; have := (Boxed.new (w.alloc (.cells #[.func (.func 22) #[] #[]] 26)) 22 (.int .u32 x0)).alloc (.cells #[.slice (some ad) r.length 0] 29); rwa [World.size_alloc] at this
      have bS : Boxed w2 (w.heap.size + 2) 29 (.slice (some ad) r.length 0) := by rw [← hw2]; have := Boxed.new ((w.alloc (.cells #[.func (.func 22) #[] #[]] 26)).alloc (.cells #[.int .u32 x0] 22)) 29 (.slice (some ad) r.length 0); rwa [World.size_alloc, World.size_alloc] at this
      rw [hw2] at hbW ⊢
      refine wp_range0 (gf := 25) (lb := #[.pointer (some ⟨w.heap.size + 2, 0, none⟩)]) rfl (enters_of Try.func25 (by kernel_rfl) rfl)
        (values1 w w2 (w.heap.size + 2) (some ad) 0 r bS.cell hCr (by omega) hbW) (fun b hb => by rcases hb with hb | hb <;> omega) (fun k vs T B W h => by obtain ⟨_, _, rfl⟩ := h; rfl)
        (TakI 22 (fun a b => aft b a) x0 r w) (fun _ _ _ => False) ?hI (fun _ _ _ _ h _ => h) ?h0 ?round ?done ?stop
      case hI =>
        rintro k W W' ⟨b, h1, h2, h3, h4⟩ hs
        exact ⟨b, h1, boxed_stab h2 hs (fun h => h), boxed_stab h3 hs (fun h => h), hs.below h4 (by omega) h4.size (fun _ _ h => h)⟩
      case h0 => exact ⟨x0, rfl, bB, bF, hbW⟩
      case round =>
        rintro l n k T W0 X vs hk ⟨b, h1, h2, h3, h4⟩ hst ⟨x, hx, rfl⟩ hRb
        have H1 := Lib.hid h1
        have HX := Lib.hid hx
        clear h1 hx
        gi_wp2
        refine ⟨Below.refl _ _, fun W2 hs => ?_⟩
        have hs02 := hst.trans hs (fun b h => h.elim)
        have b2 := boxed_stab h2 hs02 (fun h => h)
        have b3 := boxed_stab h3 hs02 (fun h => h)
        have hB4 : Below w.heap.size w W2 := hs02.below h4 (by omega) h4.size (fun _ _ h => h)
        have c2 := b2.cell
        have f2 := b2.frozen
        have c3 := b3.cell
        have HS := Lib.hid (And.intro hs02 hB4)
        clear h2 h3 h4 hs02 hB4 hst hs
        have htk : takes (fun a b => aft b a) x0 (r.take (k + 1)) = if (fun a b => aft b a) x b = true then x else b := by
          rw [List.take_add_one, HX.out, H1.out]
          exact takes_snoc _ _ _ _
        have HTK := Lib.hid htk
        clear htk
        by_cases hbt : (fun a b => aft b a) x b = true
        · have HBT := Lib.hid hbt
          have hb1 : aft b x = true := hbt
          clear hbt
          gi_wp2_with (gi_at_call 22; refine (CallsIn.inRound l (callsIn_wide.2 (before_call _ _ _))).mono ?_; rintro e w' ⟨rfl, rfl⟩)
          exact ⟨Keep.setCell _ (by simp) _, Books.setCell _ _ _, x, by rw [HTK.out, if_pos HBT.out], b2.set _, b3.kept (grownBy_setCell' W2 (w.heap.size + 1) _) (by simp), HS.out.2.setCell (p := ⟨w.heap.size + 1, 0, none⟩) (by simp) _⟩
        · have HBT := Lib.hid hbt
          have hb1 : aft b x = false := by simpa using hbt
          clear hbt
          gi_wp2_with (gi_at_call 22; refine (CallsIn.inRound l (callsIn_wide.2 (before_call _ _ _))).mono ?_; rintro e w' ⟨rfl, rfl⟩)
          exact ⟨Keep.refl _ _, Books.refl _, b, by rw [HTK.out, if_neg HBT.out], b2, b3, HS.out.2⟩
      case done =>
        rintro D W ⟨b, h1, h2, h3, h4⟩ hD hd
        have hcb := h2.cell
        have HH := Lib.hid (And.intro h1 (And.intro h2 (And.intro h4 hd)))
        clear h1 h2 h3 h4 hd
        go_wp2
        rw [Exit.noGoto_ret]
        refine marks_ret (v := .tuple #[.int .u32 b, .bool true]) (by simp [results, Try.results21, Act.put, go_sem]) (by simp [Act.put]) HH.out.2.2.2 ⟨?_, ?_⟩
        · have := HH.out.1
          rw [List.take_length] at this
          rw [this]; rfl
        · exact (stab_shut (T := fun _ => False) (n := w.heap.size) HH.out.2.2.2 (by omega)).below HH.out.2.2.1 (Nat.le_refl _) HH.out.2.2.1.size (fun _ _ h => h)
      case stop =>
        rintro D c k W _ h
        exact h.elim
    · have hCr : (Kd.int .u32).C w (some ⟨ad.block, ad.off + 1, none⟩) r.length r := by
        have := C_piece hr rfl 1 r.length (by omega)
        rwa [show ((x0 :: r).drop 1).take r.length = r from by simp] at this
      have hc2 : ¬ 1 = c := by omega
      go_wp2
      go_step3
      go_wp2
      go_step3
      go_wp2_with (go_at_call 24; refine (values_call _ _ _ _).mono ?_; rintro e w' ⟨rfl, rfl⟩)
      have hbW : Below w.heap.size w (((w.alloc (.cells #[.func (.func 22) #[] #[]] 26)).alloc (.cells #[.int .u32 x0] 22)).alloc (.cells #[.slice (some ⟨ad.block, ad.off + 1, none⟩) r.length (c - 1)] 29)) := (((Below.refl _ w).alloc (Nat.le_refl _) _).alloc (by simp) _).alloc (by simp; omega) _
      obtain ⟨w2, hw2⟩ : ∃ w2, (((w.alloc (.cells #[.func (.func 22) #[] #[]] 26)).alloc (.cells #[.int .u32 x0] 22)).alloc (.cells #[.slice (some ⟨ad.block, ad.off + 1, none⟩) r.length (c - 1)] 29)) = w2 := ⟨_, rfl⟩
      have hs2 : w2.heap.size = w.heap.size + 3 := by rw [← hw2]; simp
      have bF : Boxed w2 w.heap.size 26 (.func (.func 22) #[] #[]) := by rw [← hw2]; exact ((Boxed.new w 26 _).alloc _).alloc _
      have bB : Boxed w2 (w.heap.size + 1) 22 (.int .u32 x0) := by rw [← hw2]; have := (Boxed.new (w.alloc (.cells #[.func (.func 22) #[] #[]] 26)) 22 (.int .u32 x0)).alloc (.cells #[.slice (some ⟨ad.block, ad.off + 1, none⟩) r.length (c - 1)] 29); rwa [World.size_alloc] at this
      have bS : Boxed w2 (w.heap.size + 2) 29 (.slice (some ⟨ad.block, ad.off + 1, none⟩) r.length (c - 1)) := by rw [← hw2]; have := Boxed.new ((w.alloc (.cells #[.func (.func 22) #[] #[]] 26)).alloc (.cells #[.int .u32 x0] 22)) 29 (.slice (some ⟨ad.block, ad.off + 1, none⟩) r.length (c - 1)); rwa [World.size_alloc, World.size_alloc] at this
      rw [hw2] at hbW ⊢
      refine wp_range0 (gf := 25) (lb := #[.pointer (some ⟨w.heap.size + 2, 0, none⟩)]) rfl (enters_of Try.func25 (by kernel_rfl) rfl)
        (values1 w w2 (w.heap.size + 2) (some ⟨ad.block, ad.off + 1, none⟩) (c - 1) r bS.cell hCr (by omega) hbW) (fun b hb => by rcases hb with hb | hb <;> omega) (fun k vs T B W h => by obtain ⟨_, _, rfl⟩ := h; rfl)
        (TakI 22 (fun a b => aft b a) x0 r w) (fun _ _ _ => False) ?hI (fun _ _ _ _ h _ => h) ?h0 ?round ?done ?stop
      case hI =>
        rintro k W W' ⟨b, h1, h2, h3, h4⟩ hs
        exact ⟨b, h1, boxed_stab h2 hs (fun h => h), boxed_stab h3 hs (fun h => h), hs.below h4 (by omega) h4.size (fun _ _ h => h)⟩
      case h0 => exact ⟨x0, rfl, bB, bF, hbW⟩
      case round =>
        rintro l n k T W0 X vs hk ⟨b, h1, h2, h3, h4⟩ hst ⟨x, hx, rfl⟩ hRb
        have H1 := Lib.hid h1
        have HX := Lib.hid hx
        clear h1 hx
        gi_wp2
        refine ⟨Below.refl _ _, fun W2 hs => ?_⟩
        have hs02 := hst.trans hs (fun b h => h.elim)
        have b2 := boxed_stab h2 hs02 (fun h => h)
        have b3 := boxed_stab h3 hs02 (fun h => h)
        have hB4 : Below w.heap.size w W2 := hs02.below h4 (by omega) h4.size (fun _ _ h => h)
        have c2 := b2.cell
        have f2 := b2.frozen
        have c3 := b3.cell
        have HS := Lib.hid (And.intro hs02 hB4)
        clear h2 h3 h4 hs02 hB4 hst hs
        have htk : takes (fun a b => aft b a) x0 (r.take (k + 1)) = if (fun a b => aft b a) x b = true then x else b := by
          rw [List.take_add_one, HX.out, H1.out]
          exact takes_snoc _ _ _ _
        have HTK := Lib.hid htk
        clear htk
        by_cases hbt : (fun a b => aft b a) x b = true
        · have HBT := Lib.hid hbt
          have hb1 : aft b x = true := hbt
          clear hbt
          gi_wp2_with (gi_at_call 22; refine (CallsIn.inRound l (callsIn_wide.2 (before_call _ _ _))).mono ?_; rintro e w' ⟨rfl, rfl⟩)
          exact ⟨Keep.setCell _ (by simp) _, Books.setCell _ _ _, x, by rw [HTK.out, if_pos HBT.out], b2.set _, b3.kept (grownBy_setCell' W2 (w.heap.size + 1) _) (by simp), HS.out.2.setCell (p := ⟨w.heap.size + 1, 0, none⟩) (by simp) _⟩
        · have HBT := Lib.hid hbt
          have hb1 : aft b x = false := by simpa using hbt
          clear hbt
          gi_wp2_with (gi_at_call 22; refine (CallsIn.inRound l (callsIn_wide.2 (before_call _ _ _))).mono ?_; rintro e w' ⟨rfl, rfl⟩)
          exact ⟨Keep.refl _ _, Books.refl _, b, by rw [HTK.out, if_neg HBT.out], b2, b3, HS.out.2⟩
      case done =>
        rintro D W ⟨b, h1, h2, h3, h4⟩ hD hd
        have hcb := h2.cell
        have HH := Lib.hid (And.intro h1 (And.intro h2 (And.intro h4 hd)))
        clear h1 h2 h3 h4 hd
        go_wp2
        rw [Exit.noGoto_ret]
        refine marks_ret (v := .tuple #[.int .u32 b, .bool true]) (by simp [results, Try.results21, Act.put, go_sem]) (by simp [Act.put]) HH.out.2.2.2 ⟨?_, ?_⟩
        · have := HH.out.1
          rw [List.take_length] at this
          rw [this]; rfl
        · exact (stab_shut (T := fun _ => False) (n := w.heap.size) HH.out.2.2.2 (by omega)).below HH.out.2.2.1 (Nat.le_refl _) HH.out.2.2.1.size (fun _ _ h => h)
      case stop =>
        rintro D c k W _ h
        exact h.elim
namespace Ext
def serial_Newest.f (l0 : List Int) : Option (Int × Bool) := if l0.length ≤ 1000000 then some (tak (aft) l0) else none
theorem serial_Newest.calls (A0 : Option Addr) (c0 : Nat) (l0 : List Int) (r1 : Int) (r2 : Bool) (w : World) (hr0 : Kd.C (Kd.int .u32) w A0 l0.length l0) (hc0 : l0.length ≤ c0) (h : serial_Newest.f l0 = some (r1, r2)) :
    Calls Try.prog 17 #[.slice A0 l0.length c0] w fun e w' => e = .returned (.tuple #[.int .u32 r1, .bool r2]) ∧ Below w.heap.size w w' := by
  unfold serial_Newest.f at h
  split at h
  case isFalse => cases h
  rename_i hlen
  have e : tak (aft) l0 = (r1, r2) := Option.some.inj h
  have E1 := Lib.hid (congrArg Prod.fst e)
  have E2 := Lib.hid (congrArg Prod.snd e)
  clear h e
  go_enter Try.func17, Try.ntmps17
  go_wp2_with (go_at_call 21; refine (taken_13 _ _ _ _ hr0 hc0 hlen).mono ?_; rintro e w' ⟨rfl, hb⟩; have HB := Lib.hid hb; clear hb)
  go_ret2
  exact ⟨by simp [E1.out, E2.out], HB.out⟩
def serial_Oldest.f (l0 : List Int) : Option (Int × Bool) := if l0.length ≤ 1000000 then some (tak (fun a b => aft b a) l0) else none
theorem serial_Oldest.calls (A0 : Option Addr) (c0 : Nat) (l0 : List Int) (r1 : Int) (r2 : Bool) (w : World) (hr0 : Kd.C (Kd.int .u32) w A0 l0.length l0) (hc0 : l0.length ≤ c0) (h : serial_Oldest.f l0 = some (r1, r2)) :
    Calls Try.prog 18 #[.slice A0 l0.length c0] w fun e w' => e = .returned (.tuple #[.int .u32 r1, .bool r2]) ∧ Below w.heap.size w w' := by
  unfold serial_Oldest.f at h
  split at h
  case isFalse => cases h
  rename_i hlen
  have e : tak (fun a b => aft b a) l0 = (r1, r2) := Option.some.inj h
  have E1 := Lib.hid (congrArg Prod.fst e)
  have E2 := Lib.hid (congrArg Prod.snd e)
  clear h e
  go_enter Try.func18, Try.ntmps18
  go_wp2_with (go_at_call 21; refine (taken_22 _ _ _ _ hr0 hc0 hlen).mono ?_; rintro e w' ⟨rfl, hb⟩; have HB := Lib.hid hb; clear hb)
  go_ret2
  exact ⟨by simp [E1.out, E2.out], HB.out⟩
end Ext
end Go.Proofs.Ytdgphdkebegidaa
