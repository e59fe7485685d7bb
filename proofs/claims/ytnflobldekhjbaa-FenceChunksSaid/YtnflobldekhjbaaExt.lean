/- fence.Split and fence.Count: what they hand back. -/
import Derived.Test.YtnflobldekhjbaaSeg
import Derived.Deep.RegionLaw
import Derived.Deep.RegionHeld3
import Derived.RegionTactic
set_option linter.unusedVariables false
set_option linter.unusedSimpArgs false
namespace Go.Proofs.Ytnflobldekhjbaa
open Go.RowKit Go.Proofs.YtnflobldekhjbaaW.PrintWords
attribute [local go_sem] Oper.semAt_some

theorem segments_call (v : Value) (A : Option Addr) (n c : Nat) (hv : v = .slice A n c) (w : World) : Calls Try.prog 12 #[v] w fun e w' => e = .returned (.func (.func 17) #[] #[.pointer (some ⟨w.heap.size, 0, none⟩)]) ∧ w.alloc (.cells #[v] 22) = w' := by
  subst hv
  go_enter Try.func12, Try.ntmps12
  go_wp2
  go_ret
  exact ⟨rfl, rfl⟩

theorem infoS : (Try.prog.info? 22).map (fun i => (i.zero, i.size, i.bytes)) = some (some (.slice none 0 0), 1, 24) := by kernel_rfl

def SplitI (l0 : List Int) (w : World) (k : Nat) (W : World) : Prop :=
  ∃ (A : Option Addr) (c : Nat) (ys : List (List Int)), ys = ((segs l0).take k).map (·.2) ∧ Boxed W w.heap.size 23 (.slice A ys.length c) ∧ Kd.S (Kd.slice 5 (Kd.int .u8)) 22 W (w.heap.size + 2) (fun _ => True) (.slice A ys.length c) ys ∧ Below w.heap.size w W ∧ w.heap.size + 2 ≤ W.heap.size

theorem sgo_len : ∀ (r : List Int) (i : Nat) (cur : List Int), (sgo i cur r).length ≤ r.length
  | [], _, _ => by simp [sgo]
  | c :: r, i, cur => by
    have h1 := sgo_len r (i + 1) []
    have h2 := sgo_len r (i + 1) (cur ++ [c])
    unfold sgo
    split
    · split <;> simp <;> omega
    · simp; omega
theorem opn_none : ∀ (r cur : List Int), (∀ x ∈ r, x ≠ 0) → opn cur r = cur ++ r
  | [], cur, _ => by simp [opn]
  | c :: r, cur, h => by
    rw [opn, if_neg (h c (by simp)), opn_none r _ (fun x hx => h x (by simp [hx]))]
    simp
theorem opn_zero : ∀ (p r cur : List Int), opn cur (p ++ 0 :: r) = opn [] r
  | [], r, cur => by simp [opn]
  | c :: p, r, cur => by
    rw [List.cons_append, opn]
    split <;> exact opn_zero p r _
theorem opn_drop (l : List Int) (m : Nat) (hm : m ≤ l.length) (h0 : m = 0 ∨ rd l ((m - 1 : Nat) : Int) = 0) (h : ∀ j, m ≤ j → j < l.length → rd l (j : Int) ≠ 0) : opn [] l = l.drop m := by
  have hd : ∀ x ∈ l.drop m, x ≠ 0 := fun x hx => by
    obtain ⟨j, hj, rfl⟩ := List.getElem_of_mem hx
    rw [List.length_drop] at hj
    rw [List.getElem_drop, ← rd_get (by omega)]
    exact h _ (by omega) (by omega)
  rcases Nat.eq_zero_or_pos m with rfl | hp
  · rw [List.drop_zero] at hd ⊢
    rw [opn_none _ _ hd]; rfl
  · have h1 : rd l ((m - 1 : Nat) : Int) = 0 := h0.resolve_left (by omega)
    rw [rd_get (by omega)] at h1
    have e : l = l.take (m - 1) ++ 0 :: l.drop m := by
      have := List.drop_eq_getElem_cons (show m - 1 < l.length by omega)
      rw [h1, Nat.sub_add_cancel hp] at this
      rw [← this, List.take_append_drop]
    conv => lhs; rw [e]
    rw [opn_zero, opn_none _ _ hd]; rfl

/-- What Split hands back, when its block for deferred calls is shut. -/
theorem split_end {l0 : List Int} {w W w1 : World} {A : Option Addr} {c D : Nat} {ys : List (List Int)} {v1 : Value} {xs : List Int} (hy : ys = ((segs l0).take (segs l0).length).map (·.2))
    (h2 : Kd.S (Kd.slice 5 (Kd.int .u8)) 22 W (w.heap.size + 2) (fun _ => True) (.slice A ys.length c) ys) (h3 : Below w.heap.size w W) (h4 : w.heap.size + 2 ≤ W.heap.size) (hD : w.heap.size + 2 ≤ D) (hd : W.heap[D]? = some (.deferred (some [])))
    (hR : (Kd.int .u8).R 5 w1 W.heap.size (fun _ => True) v1 xs) (hb : Below W.heap.size W w1) (hx : xs = opn [] l0) :
    ∃ v0_ v1_, Ending.returned (.tuple #[.slice A ys.length c, v1]) = .returned (.tuple #[v0_, v1_]) ∧ Kd.S (Kd.slice 5 (Kd.int .u8)) 22 (w1.putObj D (.deferred none)) w.heap.size (fun k_ => some k_ ≠ v1_.ownBlock) v0_ ((segs l0).map (·.2)) ∧
      (Kd.int .u8).R 5 (w1.putObj D (.deferred none)) w.heap.size (fun _ => True) v1_ (opn [] l0) ∧ Below w.heap.size w (w1.putObj D (.deferred none)) := by
  have hd1 : w1.heap[D]? = some (.deferred (some [])) := (hb.block _ (Array.getElem?_eq_some_iff.1 hd).1).trans hd
  have hs : Stab (fun _ => False) w.heap.size w1 (w1.putObj D (.deferred none)) := stab_shut hd1 (by omega)
  rw [List.take_length] at hy
  subst hy hx
  refine ⟨_, _, rfl, ?_, Kd.R_lower (R_stab hR hs (fun _ _ h => h)) (by omega), hs.below (h3.trans (hb.mono (by omega))) (Nat.le_refl _) (by have := hb.size; omega) (fun _ _ h => h)⟩
  refine Kd.S_lower (S_stab (Kd.S_mono (Kd.S_below (Kd.S_bound h2) hb) (fun q hq => ?_)) hs (fun _ _ h => h)) (by omega)
  intro e
  have := Kd.R_base hR q e.symm
  have := hq.2.2.1
  omega

namespace Ext
def fence_Split.f (l0 : List Int) : Option (List (List Int) × List Int) := if l0.length ≤ 1000000 then some ((segs l0).map (·.2), opn [] l0) else none

set_option maxRecDepth 100000 in
set_option maxHeartbeats 2000000 in
theorem fence_Split.calls (A0 : Option Addr) (c0 : Nat) (l0 : List Int) (r1 : List (List Int)) (r2 : List Int) (w : World) (hr0 : Kd.C (Kd.int .u8) w A0 l0.length l0) (hc0 : l0.length ≤ c0) (h : fence_Split.f l0 = some (r1, r2)) :
    Calls Try.prog 7 #[.slice A0 l0.length c0] w fun e w' => ∃ v0_ v1_ : Value, e = .returned (.tuple #[v0_, v1_]) ∧ Kd.S (Kd.slice 5 (Kd.int .u8)) 22 w' w.heap.size (fun k_ => some k_ ≠ (v1_ : Value).ownBlock) v0_ r1 ∧ Kd.R (Kd.int .u8) 5 w' w.heap.size (fun _ => True) v1_ r2 ∧ Below w.heap.size w w' := by
  unfold fence_Split.f at h
  split at h
  case isFalse => cases h
  rename_i hlen
  simp only [Option.some.injEq, Prod.mk.injEq] at h
  obtain ⟨rfl, rfl⟩ := h
  refine (callsIn_wide (n := 5)).1 (callsIn_of_wp_marks Try.func7 rfl trivial ?_ rfl)
  simp only [Try.ntmps7, List.size_toArray, List.length_cons, List.length_nil, Nat.reduceAdd, Nat.reduceSub, Array.replicate_succ, Array.replicate_zero, List.push_toArray, List.append_toArray, List.nil_append, List.cons_append]
  refine wpIn_wide.2 ?_
  go_wp2_with (go_at_call 12; refine (segments_call _ _ _ _ rfl _).mono ?_; rintro e w' ⟨rfl, rfl⟩)
  have hbW : Below w.heap.size w ((w.alloc (.cells #[.slice none 0 0] 23)).alloc (.cells #[.slice A0 l0.length c0] 22)) := ((Below.refl _ w).alloc (Nat.le_refl _) _).alloc (by simp) _
  obtain ⟨w2, hw2⟩ : ∃ w2, ((w.alloc (.cells #[.slice none 0 0] 23)).alloc (.cells #[.slice A0 l0.length c0] 22)) = w2 := ⟨_, rfl⟩
  have hs2 : w2.heap.size = w.heap.size + 2 := by rw [← hw2]; simp
  have bO : Boxed w2 w.heap.size 23 (.slice none 0 0) := by rw [← hw2]; exact (Boxed.new w 23 (.slice none 0 0)).alloc _
  have bB : Boxed w2 (w.heap.size + 1) 22 (.slice A0 l0.length c0) := by rw [← hw2]; have := Boxed.new (w.alloc (.cells #[.slice none 0 0] 23)) 22 (.slice A0 l0.length c0); rwa [World.size_alloc] at this
  rw [hw2] at hbW ⊢
  refine wp_range0 (gf := 17) (lb := #[.pointer (some ⟨w.heap.size + 1, 0, none⟩)]) rfl (enters_of Try.func17 (by kernel_rfl) rfl)
    (segments1 w w2 (w.heap.size + 1) A0 c0 l0 bB.cell hc0 hr0 hlen hbW) (fun b hb => by rcases hb with hb | hb <;> omega) (fun k vs T B W h => by obtain ⟨_, _, _, _, _, rfl, _⟩ := h; rfl)
    (SplitI l0 w) (fun _ _ _ => False) ?hI (fun _ _ _ _ h _ => h) ?h0 ?round ?done ?stop
  case hI =>
    rintro k W W' ⟨A, c, ys, hy, h1, h2, h3, h4⟩ hs
    exact ⟨A, c, ys, hy, boxed_stab h1 hs (fun h => h), S_stab h2 hs (fun _ _ h => h), hs.below h3 (by omega) h3.size (fun _ _ h => h), Nat.le_trans h4 hs.size⟩
  case h0 => exact ⟨none, 0, [], rfl, bO, Kd.S_nil _ _ _ _ _, hbW, by omega⟩
  case round =>
    rintro l n k T W0 X vs hk ⟨A1, c1, ys, hy, h1, h2, h3, h4⟩ hst ⟨at_, xs, v2, hseg, hat, rfl, hR⟩ hRb
    obtain ⟨A2, c2, rfl⟩ := Kd.R_slice hR
    have hsl : (segs l0).length ≤ 1000000 := Nat.le_trans (sgo_len _ _ _) hlen
    have hlen2 : ys.length ≤ 1000000 := by rw [hy]; simp; omega
    have HY := Lib.hid hy
    have HSEG := Lib.hid hseg
    clear hy hseg hsl
    gi_wp2
    refine ⟨Below.refl _ _, fun W2 hs => ?_⟩
    have hs02 := hst.trans hs (fun b h => h.elim)
    have b2 := boxed_stab h1 hs02 (fun h => h)
    have S2 : Kd.S (Kd.slice 5 (Kd.int .u8)) 22 W2 (w.heap.size + 2) (fun k => True ∧ ¬ some k = (Value.slice A2 xs.length c2).ownBlock) (.slice A1 ys.length c1) ys :=
      Kd.S_mono (S_stab (Kd.S_bound h2) hs02 (fun _ _ h => h)) (fun q hq => ⟨trivial, fun e => by have := Kd.R_base hR q e.symm; have := hq.2.2.1; omega⟩)
    have R2 := Kd.R_tight rfl (R_stab hR hs (fun _ _ h => h))
    have hvlt : ∀ q, (Value.slice A1 ys.length c1).ownBlock = some q → q < W0.heap.size := fun q e => Kd.S_lt h2 q e
    have hbase : w.heap.size + 2 ≤ W2.heap.size := Nat.le_trans h4 hs02.size
    obtain ⟨v1, w1, hrun, S3, hg3, hat3⟩ := run_app_S (P := Try.prog) (t := 23) (e := 22) (ty := 23) (ok := fun _ => True) (okp := fun q => some q = (Value.slice A2 xs.length c2).ownBlock) (p := xs) (cs := [.slice A2 xs.length c2]) (Kd.slice 5 (Kd.int .u8)) Try.underlying23 infoS rfl (by decide) (by decide) S2 ⟨_, rfl, Kd.R_lower R2 (by have := hst.size; omega)⟩
      (fun q e => ⟨trivial, fun e2 => by have := Kd.R_base hR q e.symm; have := hvlt q e2.symm; omega⟩) (fun _ _ => trivial) hbase (by omega)
    have hc2 := cell_al b2.cell (.cells #[.slice A2 xs.length c2] 22)
    have bS : ∀ q, (Value.slice A1 ys.length c1).ownBlock = some q → w.heap.size + 2 ≤ q := fun q e => Kd.S_base S2 q e
    have b3 := boxed_app b2 hg3 (fun q e => by have := bS q e; omega)
    have hc3 := b3.cell
    have hf3 := b3.frozen
    obtain ⟨A3, c3, e3⟩ := Kd.S_slice S3
    have e4 : (ys ++ [xs]).length = ys.length + 1 := by simp
    rw [e4] at e3
    subst e3
    have hc2' := b2.cell
    have HS02 := Lib.hid hs02
    have HH := Lib.hid (And.intro S2 (And.intro S3 (And.intro hg3 bS)))
    clear h1 h2 S2 S3 hg3 bS hvlt R2 hat3 hs02 e4
    gi_wp2_with (gi_at_builtin; refine runIn_app _ _ _ (by kernel_rfl) rfl hrun ?_)
    have hk1 : Keep (fun b => b < w.heap.size ∨ b = w.heap.size + 1) W2 w1 := Keep.grown HH.out.2.2.1 (fun q e => by have := HH.out.2.2.2 q e; omega)
    have hbk : Books W2 w1 := books_row HH.out.2.2.1 (Kd.S_typed HH.out.1)
    refine ⟨hk1.trans (Keep.setCell _ (by simp) _), hbk.trans (Books.setCell _ _ _), A3, c3, ys ++ [xs], ?_, ?_, ?_, ?_, ?_⟩
    · rw [HY.out, List.take_add_one, List.map_append, HSEG.out]; rfl
    · rw [List.length_append]; exact b3.set _
    · rw [List.length_append]
      exact Kd.S_set HH.out.2.1 b3 (by decide) _ _
    · have h5 : Below w.heap.size w W2 := HS02.out.below h3 (by omega) h3.size (fun _ _ h => h)
      exact ((below_app h5 HH.out.2.2.1 (by omega) (fun q e => by have := HH.out.2.2.2 q e; omega))).setCell (p := ⟨w.heap.size, 0, none⟩) (Nat.le_refl _) _
    · have := hk1.size; simp [World.setCell]; omega
  case done =>
    rintro D W ⟨A, c, ys, hy, h1, h2, h3, h4⟩ hD hd
    have HY := Lib.hid hy
    have HD := Lib.hid hd
    have hB := h1.cell
    have hD2 : w.heap.size + 2 ≤ D := by omega
    have HH := Lib.hid (And.intro h1 (And.intro h2 (And.intro h3 (And.intro h4 hD2))))
    have HC := Lib.hid (Kd.C_below hr0 h3)
    clear hy hd h1 h2 h3 h4 hD hD2 hr0 bO bB hbW hw2 hs2
    go_wp2
    go_loop [7] (fun t => ∃ m : Nat, t = .int .i64 (m : Int) ∧ m ≤ l0.length ∧ Hid (∀ j, m ≤ j → j < l0.length → rd l0 (j : Int) ≠ 0)) (fun t => (intOf t).toNat)
    case atStart => exact ⟨l0.length, rfl, Nat.le_refl _, Lib.hid (fun j h1 h2 => by omega)⟩
    case round =>
      obtain ⟨m, rfl, hm, HN⟩ := hrel
      by_cases hm0 : m = 0
      · subst hm0
        have hCp : (Kd.int .u8).C (W.drew.alloc (.cells #[] 5)) A0 l0.length l0 := Kd.C_alloc (Kd.C_drew HC.out) _
        obtain ⟨v1, w1, hrun, hR1, hg1, hat1⟩ := run_app_row (P := Try.prog) (t := 22) (e := 5) (ty := 22) (c := c0) .u8 Try.underlying22 infoB (by decide) (R_empty (Kd.int .u8) 5 W.drew W.drew.heap.size (Nat.le_refl _) (fun _ => True) trivial) hCp (fun _ _ => trivial) (by simp) (by simp; omega)
        have hb1 : Below W.heap.size W w1 := (((Below.refl _ W).drew).alloc (Nat.le_refl _) _).grown hg1 (by simp) (fun k e => by cases e; exact Nat.le_refl _)
        have hBa : (W.alloc (.cells #[] 5)).cell? ⟨w.heap.size, 0, none⟩ = some (.slice A ys.length c) := cell_al hB _
        have hB1 : w1.cell? ⟨w.heap.size, 0, none⟩ = some (.slice A ys.length c) := pw_cell_below hb1 hB
        rw [List.nil_append] at hR1
        have HR1 := Lib.hid (And.intro hR1 (And.intro hg1 hb1))
        clear hR1 hg1 hCp hat1 hb1
        go_wp2
        refine wp_region_noPanic ?_
        go_region_law (first | (refine step_app (.tmp 31) (.tmp 34) 22 rfl rfl hrun ?_))
        all_goals refine NoPanic.normal ?_
        all_goals go_wp2
        all_goals exact marks_ret (v := .tuple #[.slice A ys.length c, v1]) (by simp [results, Try.results7, Act.put, go_sem]) (by simp [Act.put]) ((HR1.out.2.2.block _ (Array.getElem?_eq_some_iff.1 HD.out).1).trans HD.out) (split_end HY.out HH.out.2.1 HH.out.2.2.1 HH.out.2.2.2.1 HH.out.2.2.2.2 HD.out HR1.out.1 HR1.out.2.2 (by rw [opn_drop l0 0 (Nat.zero_le _) (.inl rfl) HN.out]; rfl))
      · obtain ⟨ad, rfl, hcell⟩ := Kd.at_int HC.out ((m - 1 : Nat) : Int) (by omega) (by omega)
        rw [Int.toNat_natCast] at hcell
        have e1 : ((m : Int) - 1) = ((m - 1 : Nat) : Int) := by omega
        have hpos : 0 < m := by omega
        generalize hx : rd l0 ((m - 1 : Nat) : Int) = x at *
        have HX := Lib.hid hx
        clear hx
        by_cases h0 : x = 0
        · have t1 : (x != 0) = false := by simp [h0]
          have H0 := Lib.hid h0
          clear h0
          by_cases hcm : c0 = m
          · obtain rfl : m = l0.length := by omega
            subst hcm
            have hCp : (Kd.int .u8).C (W.drew.alloc (.cells #[] 5)) (some ad) 0 [] := ⟨rfl, by omega, fun h => absurd h (by omega)⟩
            obtain ⟨v1, w1, hrun, hR1, hg1, hat1⟩ := run_app_row (P := Try.prog) (t := 22) (e := 5) (ty := 22) (c := 0) .u8 Try.underlying22 infoB (by decide) (R_empty (Kd.int .u8) 5 W.drew W.drew.heap.size (Nat.le_refl _) (fun _ => True) trivial) hCp (fun _ _ => trivial) (by simp) (by simp)
            have hb1 : Below W.heap.size W w1 := (((Below.refl _ W).drew).alloc (Nat.le_refl _) _).grown hg1 (by simp) (fun k e => by cases e; exact Nat.le_refl _)
            have hBa : (W.alloc (.cells #[] 5)).cell? ⟨w.heap.size, 0, none⟩ = some (.slice A ys.length c) := cell_al hB _
            have hB1 : w1.cell? ⟨w.heap.size, 0, none⟩ = some (.slice A ys.length c) := pw_cell_below hb1 hB
            rw [List.nil_append] at hR1
            have HR1 := Lib.hid (And.intro hR1 (And.intro hg1 hb1))
            clear hR1 hg1 hCp hat1 hb1
            go_wp2
            refine wp_region_noPanic ?_
            go_region_law (first | (refine step_app (.tmp 31) (.tmp 34) 22 rfl rfl hrun ?_))
            all_goals refine NoPanic.normal ?_
            all_goals go_wp2
            all_goals exact marks_ret (v := .tuple #[.slice A ys.length c, v1]) (by simp [results, Try.results7, Act.put, go_sem]) (by simp [Act.put]) ((HR1.out.2.2.block _ (Array.getElem?_eq_some_iff.1 HD.out).1).trans HD.out) (split_end HY.out HH.out.2.1 HH.out.2.2.1 HH.out.2.2.2.1 HH.out.2.2.2.2 HD.out HR1.out.1 HR1.out.2.2 (by rw [opn_drop l0 l0.length hm (.inr (by rw [HX.out, H0.out])) HN.out]; simp))
          · have hcm' : m < c0 := by omega
            have hcm2 : ¬ m = c0 := by omega
            have hCp : (Kd.int .u8).C (W.drew.alloc (.cells #[] 5)) (some (ad.add m)) (l0.length - m) (l0.drop m) := by have := C_piece (Kd.C_alloc (Kd.C_drew HC.out) (.cells #[] 5)) rfl m (l0.length - m) (by omega); rwa [List.take_of_length_le (by simp)] at this
            obtain ⟨v1, w1, hrun, hR1, hg1, hat1⟩ := run_app_row (P := Try.prog) (t := 22) (e := 5) (ty := 22) (c := c0 - m) .u8 Try.underlying22 infoB (by decide) (R_empty (Kd.int .u8) 5 W.drew W.drew.heap.size (Nat.le_refl _) (fun _ => True) trivial) hCp (fun _ _ => trivial) (by simp) (by simp; omega)
            have hb1 : Below W.heap.size W w1 := (((Below.refl _ W).drew).alloc (Nat.le_refl _) _).grown hg1 (by simp) (fun k e => by cases e; exact Nat.le_refl _)
            have hBa : (W.alloc (.cells #[] 5)).cell? ⟨w.heap.size, 0, none⟩ = some (.slice A ys.length c) := cell_al hB _
            have hB1 : w1.cell? ⟨w.heap.size, 0, none⟩ = some (.slice A ys.length c) := pw_cell_below hb1 hB
            rw [List.nil_append] at hR1
            have HR1 := Lib.hid (And.intro hR1 (And.intro hg1 hb1))
            clear hR1 hg1 hCp hat1 hb1
            go_wp2
            refine wp_region_noPanic ?_
            go_region_law (first | (refine step_app (.tmp 31) (.tmp 34) 22 rfl rfl hrun ?_))
            all_goals refine NoPanic.normal ?_
            all_goals go_wp2
            all_goals exact marks_ret (v := .tuple #[.slice A ys.length c, v1]) (by simp [results, Try.results7, Act.put, go_sem]) (by simp [Act.put]) ((HR1.out.2.2.block _ (Array.getElem?_eq_some_iff.1 HD.out).1).trans HD.out) (split_end HY.out HH.out.2.1 HH.out.2.2.1 HH.out.2.2.2.1 HH.out.2.2.2.2 HD.out HR1.out.1 HR1.out.2.2 (by rw [opn_drop l0 m hm (.inr (by rw [HX.out, H0.out])) HN.out]))
        · have t1 : (x != 0) = true := by simp [h0]
          have H0 := Lib.hid h0
          clear h0
          go_wp2
          refine ⟨⟨m - 1, rfl, by omega, Lib.hid (fun j h1 h2 => ?_)⟩, by simp [intOf]; omega⟩
          by_cases hj : j = m - 1
          · subst hj; rw [HX.out]; exact H0.out
          · exact HN.out j (by omega) h2
  case stop =>
    rintro D c k W _ h
    exact h.elim
end Ext
end Go.Proofs.Ytnflobldekhjbaa
