/- scan: the iterator of Each, where the blocks of X are none of its own. -/
import Derived.Test.YtmkhhnhoodneeaaEac
import Derived.Test.YtmkhhnhoodneeaaScx
set_option linter.unusedVariables false
set_option linter.unusedSimpArgs false
namespace Go.Proofs.Ytmkhhnhoodneeaa
open Go.RowKit Go.Proofs.YtmkhhnhoodneeaaW.PrintWords Go.Proofs.YtmkhhnhoodneeaaW.PrintMore
attribute [local go_sem] Oper.semAt_some

theorem Stab.more {T T' : Nat → Prop} {n : Nat} {W W' : World} (h : Stab T n W W') (hT : ∀ b, T b → T' b) : Stab T' n W W' := ⟨h.os, h.tape, h.output, h.size, fun k o h1 h2 h3 => h.same k o h1 (fun h => h2 (hT k h)) h3⟩
theorem BytesT.of_RX {W W' : World} {X : Nat → Prop} {g base n c : Nat} {A : Option Addr} {xs : List Int} (h : (Kd.int .u8).R 5 W base (fun k => k ≠ g ∧ ¬ X k) (.slice A n c) xs) (hX : ∀ b, X b → b < W.heap.size) (hs : Stab (fun b => b = g) W.heap.size W W') : BytesT W' (fun b => b = g ∨ X b) A xs := by
  have h1 := Kd.R_F (Kd.R_bound h)
  rw [(Kd.R_reads' h).1] at h1
  have h2 : BytesT W (fun b => b = g ∨ X b) A xs := Kd.F_mono h1 (fun k hk => by
    obtain ⟨h3, _, _, q, hq, cells, hc⟩ := hk
    have : q = 5 := by simpa [Kd.int, Kd.scalar] using hq
    subst this
    exact ⟨⟨cells, hc⟩, fun h => h.elim h3.1 h3.2⟩)
  exact h2.step (hs.more (fun b h => .inl h)) (fun b hb => .inl hb)
/-- What is handed over as the k-th. -/
def EacQX (X : Nat → Prop) (g : Nat) (L : List P.S39) (k : Nat) (vs : Array Value) (T : Nat → Prop) (B : Nat) (W : World) : Prop :=
  ∃ (s : P.S39) (A : Option Addr), L[k]? = some s ∧ vs = #[.agg #[.slice A s.f0.length s.f0.length, .bool s.f1, .int .i64 s.f2, .int .u64 s.f3]] ∧ BytesT W (fun b => T b ∨ X b) A s.f0 ∧ Scn W g (.slice none 0 0) 0 (s.f3 + s.f2 + 1) ∧ ∀ b, T b → b = g
/-- How the scanner stands at the end. -/
def EacFinX (X : Nat → Prop) (g base : Nat) (xs0 : List Int) (n0 fed0 : Nat) (l : List Int) (L : List P.S39) (f : Bool) (k : Nat) (T : Nat → Prop) (W : World) : Prop :=
  (f = true → ∃ vh, (∀ b, T b ↔ Own g vh b) ∧ Scn W g vh ((hld xs0 n0 l).2 : Int) ((fed0 + l.length : Nat) : Int) ∧ (Kd.int .u8).R 5 W base (fun k => k ≠ g ∧ ¬ X k) vh (hld xs0 n0 l).1) ∧
  (f = false → ∃ s, L[k]? = some s ∧ (∀ b, T b ↔ b = g) ∧ Scn W g (.slice none 0 0) 0 (s.f3 + s.f2 + 1))

/-- Between two rounds. -/
def EacRX (X : Nat → Prop) (Rl : Nat → Prop) (g base Bb Bs : Nat) (xs0 : List Int) (n0 fed0 : Nat) (l : List Int) (J : Nat → (Nat → Prop) → World → Prop) (W : World) (t : Value) (wr : World) : Prop :=
  ∃ (i m : Nat) (vh : Value) (xs : List Int) (n : Nat) (W0 : World) (T : Nat → Prop) (dn : List P.S39), t = .int .i64 (i : Int) ∧ i ≤ l.length ∧ Scn wr g vh n ((fed0 + i : Nat) : Int) ∧ (Kd.int .u8).R 5 wr base (fun k => k ≠ g ∧ ¬ X k) vh xs ∧ xs.length ≤ 255 ∧ xs.length ≤ n ∧ n ≤ fed0 + i ∧
    Hid (sgs xs0 n0 fed0 l = dn ++ sgs xs n (fed0 + i) (l.drop i)) ∧ Hid (hld xs0 n0 l = hld xs n (l.drop i)) ∧ dn.length = m ∧ J m T W0 ∧ (∀ b, Own g vh b → T b ∨ W0.heap.size ≤ b) ∧ Stab T W0.heap.size W0 wr ∧ base ≤ W0.heap.size ∧ Keep (fun b => Rl b ∨ b = Bb ∨ b = Bs) W wr ∧ (∀ b, Rl b → ¬ Own g vh b)

set_option maxRecDepth 100000 in
set_option maxHeartbeats 4000000 in
theorem each1X (X : Nat → Prop) (Rl : Nat → Prop) (w : World) (g base Bb Bs : Nat) (A : Option Addr) (c : Nat) (l : List Int) (vh0 : Value) (xs0 : List Int) (n0 fed0 : Nat) (hS : w.heap[Bs]? = some (.cells #[.pointer (some ⟨g, 0, none⟩)] 23 (0, 0))) (hB : w.heap[Bb]? = some (.cells #[.slice A l.length c] 22 (0, 0))) (hg : Scn w g vh0 n0 fed0) (hR : (Kd.int .u8).R 5 w base (fun k => k ≠ g ∧ ¬ X k) vh0 xs0)
    (hx : xs0.length ≤ 255 ∧ xs0.length ≤ n0) (hn : n0 ≤ fed0) (hf : fed0 + l.length ≤ 1000000) (hc : l.length ≤ c) (hr : Kd.F (Kd.int .u8) w Rl A l.length l) (hRl : ∀ b, Rl b → b < w.heap.size ∧ ¬ Own g vh0 b) (hbw : base ≤ w.heap.size) (hX : ∀ b, X b → b < w.heap.size) :
    Iter Try.prog 20 #[.pointer (some ⟨Bs, 0, none⟩), .pointer (some ⟨Bb, 0, none⟩)] (sgs xs0 n0 fed0 l).length (fun _ => True) (fun b => Rl b ∨ b = Bb ∨ b = Bs) (Own g vh0) (EacQX X g (sgs xs0 n0 fed0 l)) (EacFinX X g base xs0 n0 fed0 l (sgs xs0 n0 fed0 l)) w := by
  intro l' J Jx W hW hY h0
  have hSW : W.heap[Bs]? = some (.cells #[.pointer (some ⟨g, 0, none⟩)] 23 (0, 0)) := hW.same _ _ hS (.inl (.inr (.inr rfl)))
  have hBW : W.heap[Bb]? = some (.cells #[.slice A l.length c] 22 (0, 0)) := hW.same _ _ hB (.inl (.inr (.inl rfl)))
  have hgW : Scn W g vh0 n0 fed0 := hW.same _ _ hg (.inr (.inl rfl))
  have hRW : (Kd.int .u8).R 5 W base (fun k => k ≠ g ∧ ¬ X k) vh0 xs0 := R_own_same hR (fun k hk => by
    obtain ⟨cells, hcs⟩ := Kd.R_typed hR k hk
    rw [hcs]; exact hW.same _ _ hcs (.inr (.inr hk)))
  have hbW : Kd.F (Kd.int .u8) W Rl A l.length l := Kd.F_step hr (fun k hk hlt => by
    rw [Array.getElem?_eq_getElem hlt]; exact hW.same _ _ (Array.getElem?_eq_getElem hlt) (.inl (.inl hk)))
  have hsW : w.heap.size ≤ W.heap.size := hW.size
  have cB : W.cell? ⟨Bb, 0, none⟩ = some (.slice A l.length c) := by simp [World.cell?, hBW]
  have cS : W.cell? ⟨Bs, 0, none⟩ = some (.pointer (some ⟨g, 0, none⟩)) := by simp [World.cell?, hSW]
  have HY := Lib.hid hY
  have HJ := Lib.hid (And.intro h0 (And.intro hgW (And.intro hRW (And.intro hbW (And.intro hSW hBW)))))
  clear hY h0 hgW hRW hS hB hg hR hSW hBW
  show Calls Try.prog 20 #[.func (.yield l') #[] #[], .pointer (some ⟨Bs, 0, none⟩), .pointer (some ⟨Bb, 0, none⟩)] W _
  go_enter Try.func20, Try.ntmps20
  go_wp2_with (fail)
  go_step3
  go_wp2_with (fail)
  go_step3
  go_wp2_with (fail)
  go_loopw [12] (fun t wr => EacRX X Rl g base Bb Bs xs0 n0 fed0 l J W t wr) (fun t _ => l.length - (intV t).toNat)
  case atStart => exact ⟨0, 0, vh0, xs0, n0, W, Own g vh0, [], rfl, Nat.zero_le _, HJ.out.2.1, HJ.out.2.2.1, hx.1, hx.2, by omega, Lib.hid (by simp), Lib.hid (by simp), rfl, HJ.out.1, fun b hb => .inl hb, Stab.refl _ _ _, by omega, Keep.refl _ _, fun b hb => (hRl b hb).2⟩
  case round =>
    obtain ⟨i, m, vh, xs, n, W0, T, dn, rfl, hi, hSc, hRr, hx1, hx2, hnf, HS, HH, hdn, hJ, hOT, hst, hbW0, hk, hRO⟩ := hrel
    have hSwr : wr.heap[Bs]? = some (.cells #[.pointer (some ⟨g, 0, none⟩)] 23 (0, 0)) := hk.same _ _ HJ.out.2.2.2.2.1 (.inr (.inr rfl))
    have hBwr : wr.heap[Bb]? = some (.cells #[.slice A l.length c] 22 (0, 0)) := hk.same _ _ HJ.out.2.2.2.2.2 (.inr (.inl rfl))
    have hnS := own_not hSc hRr hSwr (by decide) (by decide)
    have hnB := own_not hSc hRr hBwr (by decide) (by decide)
    have hnO : ∀ b, (Rl b ∨ b = Bb ∨ b = Bs) → ¬ Own g vh b := fun b hb ho => by
      rcases hb with hb | rfl | rfl
      · exact hRO b hb ho
      · exact hnB ho
      · exact hnS ho
    have hngR : ¬ (Rl g ∨ g = Bb ∨ g = Bs) := fun h => hnO g h (.inl rfl)
    have HNO := Lib.hid (And.intro hnO hngR)
    clear hnB hnO hngR
    have cSr : wr.cell? ⟨Bs, 0, none⟩ = some (.pointer (some ⟨g, 0, none⟩)) := by simp [World.cell?, hSwr]
    have hbr : Kd.F (Kd.int .u8) wr Rl A l.length l := Kd.F_step HJ.out.2.2.2.1 (fun k hk' hlt => by
      rw [Array.getElem?_eq_getElem hlt]; exact hk.same _ _ (Array.getElem?_eq_getElem hlt) (.inl hk'))
    have hswr : w.heap.size ≤ wr.heap.size := Nat.le_trans hsW hk.size
    have hbs : base ≤ wr.heap.size := Nat.le_trans hbW0 hst.size
    by_cases hlt : i < l.length
    · obtain ⟨ad, rfl, hcell⟩ := Kd.at_int (Kd.F_now hbr) (i : Int) (by omega) (by omega)
      rw [Int.toNat_natCast] at hcell
      have hlt2 : ((i : Int) < (l.length : Int)) = True := eq_true (by omega)
      have hsg := sgs_at (xs := xs) (n := n) (fed := fed0 + i) hlt
      have hhl := hld_at (xs := xs) (n := n) hlt
      rw [← rd_get hlt] at hsg hhl
      have HG := Lib.hid (And.intro hsg hhl)
      have HR0 := Lib.hid (And.intro hSc (And.intro hRr (And.intro hJ (And.intro hOT (And.intro hst (And.intro hbW0 (And.intro hk hbr)))))))
      have HSW := Lib.hid hSwr
      clear hsg hhl hSc hRr hJ hOT hst hk hbr hSwr
      generalize hy0 : rd l (i : Int) = y at *
      have HY0 := Lib.hid hy0
      clear hy0
      by_cases hy : y = 0
      · subst hy
        obtain ⟨Ah, ch, rfl⟩ := Kd.R_slice HR0.out.2.1
        have hrd := Kd.R_reads' HR0.out.2.1
        go_wp2_with (fail)
        refine (end_call wr g Ah ch xs n (fed0 + i) HR0.out.1 hrd.2.1 hnf (by omega)).mono ?_
        rintro e W1 ⟨rfl, h1, s1⟩
        have hS1 : W1.heap[Bs]? = some (.cells #[.pointer (some ⟨g, 0, none⟩)] 23 (0, 0)) := s1.block HSW.out (fun h => hnS (.inl h)) rfl
        have cS1 : W1.cell? ⟨Bs, 0, none⟩ = some (.pointer (some ⟨g, 0, none⟩)) := by simp [World.cell?, hS1]
        have hb5 : BytesT W1 (fun b => b = g ∨ X b) Ah xs := BytesT.of_RX HR0.out.2.1 (fun b h => Nat.lt_of_lt_of_le (hX b h) hswr) s1
        obtain ⟨Z, hZ⟩ : ∃ Z, W1.alloc (.cells #[.slice Ah xs.length xs.length, .bool (decide (255 < n)), .int .i64 n, .int .u64 ((fed0 + i - n : Nat) : Int)] 39) = Z := ⟨_, rfl⟩
        have bX : Below W1.heap.size W1 Z := by rw [← hZ]; exact (Below.refl _ W1).alloc (Nat.le_refl _) _
        have hX4 : B4 Z W1.heap.size (.slice Ah xs.length xs.length) (.bool (decide (255 < n))) (.int .i64 n) (.int .u64 ((fed0 + i - n : Nat) : Int)) := by rw [← hZ]; exact World.alloc_heap_new _ _
        have hgX : Scn Z g (.slice none 0 0) 0 ((fed0 + i : Nat) : Int) := (bX.block g h1.lt).trans h1
        have hSX : Z.heap[Bs]? = some (.cells #[.pointer (some ⟨g, 0, none⟩)] 23 (0, 0)) := (bX.block Bs (Array.getElem?_eq_some_iff.1 hS1).1).trans hS1
        have cSX : Z.cell? ⟨Bs, 0, none⟩ = some (.pointer (some ⟨g, 0, none⟩)) := by simp [World.cell?, hSX]
        have c2 := hgX.c2
        have f2 := hgX.fz 2
        have hfd : IntKind.u64.wrap (((fed0 + i : Nat) : Int) + 1) = ((fed0 + (i + 1) : Nat) : Int) := by rw [u64_id (by omega) (by omega)]; omega
        go_upto_region 9 with (fail)
        have hX2g : Scn (Z.setCell ⟨g, 2, none⟩ (.int .u64 ((fed0 : Int) + (i : Int) + 1))) g (.slice none 0 0) 0 ((fed0 : Int) + (i : Int) + 1) := hgX.s2 _
        have sX2 : Stab (fun b => b = g) Z.heap.size Z (Z.setCell ⟨g, 2, none⟩ (.int .u64 ((fed0 : Int) + (i : Int) + 1))) := Stab.setT (T := fun b => b = g) (p := ⟨g, 2, none⟩) Z rfl _
        obtain ⟨X2, hX2⟩ : ∃ X2, Z.setCell ⟨g, 2, none⟩ (.int .u64 ((fed0 : Int) + (i : Int) + 1)) = X2 := ⟨_, rfl⟩
        rw [hX2] at hX2g sX2
        have hgne : W1.heap.size ≠ g := by have := h1.lt; omega
        have hX24 : B4 X2 W1.heap.size (.slice Ah xs.length xs.length) (.bool (decide (255 < n))) (.int .i64 n) (.int .u64 ((fed0 + i - n : Nat) : Int)) := by rw [← hX2]; exact (Below.heap_setCell _ _ _ _ hgne).trans hX4
        have hTg : ∀ b, b = g → T b ∨ W0.heap.size ≤ b := fun b hb => by subst hb; exact HR0.out.2.2.2.1 b (.inl rfl)
        have s02 : Stab T W0.heap.size W0 X2 := ((HR0.out.2.2.2.2.1.trans (s1.any) hTg).trans (Stab.of_below (T := fun _ => False) bX) (fun b hb => hb.elim)).trans (sX2.any) hTg
        have k02 : Keep (fun b => Rl b ∨ b = Bb ∨ b = Bs) W X2 := ((HR0.out.2.2.2.2.2.2.1.trans (Keep.of_stab s1 (fun b hb _ e => HNO.out.1 b hb (.inl e)))).trans (Keep.of_below bX)).trans (Keep.of_stab sX2 (fun b hb _ e => HNO.out.1 b hb (.inl e)))
        have b02 : BytesT X2 (fun b => b = g ∨ X b) Ah xs := (hb5.step (Stab.of_below (T := fun b => b = g ∨ X b) bX) (fun b hb => .inl hb)).step (sX2.more (fun b h => .inl h)) (fun b hb => .inl hb)
        obtain ⟨x0, x1, x2, x3⟩ := hX24.c
        have hsz2 : base ≤ X2.heap.size := by have := s02.size; have := HR0.out.2.2.2.2.2.1; omega
        have HZ := Lib.hid (And.intro hX2g (And.intro s02 (And.intro k02 (And.intro b02 hsz2))))
        clear hX2g s02 k02 b02 sX2 hX24 hX4 hgX hSX bX hS1 h1 s1 hb5 hrd
        by_cases hn0 : n = 0
        · have t1 : (0 < n) = False := eq_false (by omega)
          have HN := Lib.hid hn0
          clear hn0
          go_wp2_with (fail)
          refine ⟨⟨i + 1, m, .slice none 0 0, [], 0, W0, T, dn, by simp, hlt, by rw [show ((fed0 + (i + 1) : Nat) : Int) = (fed0 : Int) + (i : Int) + 1 by omega]; exact HZ.out.1, Kd.R_nil _ _ _ _ _, by simp, by simp, by omega, Lib.hid (by rw [HS.out, HG.out.1, if_pos trivial, if_pos HN.out]; rfl), Lib.hid (by rw [HH.out, HG.out.2, if_pos trivial]), hdn, HR0.out.2.2.1, fun b hb => by rcases hb with hb | hb; exact hTg b hb; simp [Value.ownBlock] at hb, HZ.out.2.1, HR0.out.2.2.2.2.2.1, HZ.out.2.2.1, fun b hb ho => by rcases ho with ho | ho; exact hRO b hb (.inl ho); simp [Value.ownBlock] at ho⟩, by simp [intV]; omega⟩
        · have t1 : (0 < n) = True := eq_true (by omega)
          have HN := Lib.hid hn0
          clear hn0
          have hsl : sgs xs0 n0 fed0 l = dn ++ ⟨xs, decide (255 < n), (n : Int), ((fed0 + i - n : Nat) : Int)⟩ :: sgs [] 0 (fed0 + (i + 1)) (l.drop (i + 1)) := by
            rw [HS.out, HG.out.1, if_pos trivial, if_neg HN.out]; rfl
          have hseg : (sgs xs0 n0 fed0 l)[m]? = some ⟨xs, decide (255 < n), (n : Int), ((fed0 + i - n : Nat) : Int)⟩ := by
            rw [hsl, List.getElem?_append_right (by omega), hdn, Nat.sub_self]; rfl
          obtain ⟨fn, tmps, assign, body, hy, hRd⟩ := HY.out m T (fun b => b = g) W0 X2 #[.agg #[.slice Ah xs.length xs.length, .bool (decide (255 < n)), .int .i64 n, .int .u64 ((fed0 + i - n : Nat) : Int)]] (List.getElem?_eq_some_iff.1 hseg).1 HR0.out.2.2.1 trivial hTg (fun b hb => by rw [hb]; exact HZ.out.1.lt) HZ.out.2.1
            ⟨_, Ah, hseg, rfl, HZ.out.2.2.2.1, by rw [show (((fed0 + i - n : Nat) : Int)) + (n : Int) + 1 = (fed0 : Int) + (i : Int) + 1 by omega]; exact HZ.out.1, fun b hb => hb⟩
          have HRD := Lib.hid hRd
          have HSL := Lib.hid (And.intro hsl hseg)
          clear hRd hsl hseg
          refine (wpIn_wide (n := 5)).1 ?_
          gi_wp2_with (fail)
          refine (HRD.out _).mono ?_
          rintro e W3 (⟨rfl, hJ3, hk3⟩ | ⟨rfl, hJ3, hk3⟩)
          · have h3 : Scn W3 g (.slice none 0 0) 0 ((fed0 : Int) + (i : Int) + 1) := hk3.same _ _ HZ.out.1 (.inr rfl)
            have hk' : Keep (fun b => Rl b ∨ b = Bb ∨ b = Bs) W W3 := HZ.out.2.2.1.trans (hk3.mono (fun b h => .inl h))
            have H3 := Lib.hid (And.intro h3 (And.intro hk' (Nat.le_trans HZ.out.2.2.2.2 hk3.size)))
            clear h3 hk' hk3 hy
            gi_wp2_with (fail)
            go_wp2_with (fail)
            refine ⟨⟨i + 1, m + 1, .slice none 0 0, [], 0, W3, (fun b => b = g), dn ++ [⟨xs, decide (255 < n), (n : Int), ((fed0 + i - n : Nat) : Int)⟩], by simp, hlt, by rw [show ((fed0 + (i + 1) : Nat) : Int) = (fed0 : Int) + (i : Int) + 1 by omega]; exact H3.out.1, Kd.R_nil _ _ _ _ _, by simp, by simp, by omega, Lib.hid (by rw [HSL.out.1]; simp), Lib.hid (by rw [HH.out, HG.out.2, if_pos trivial]), by rw [List.length_append, hdn]; rfl, hJ3, fun b hb => by rcases hb with hb | hb; exact .inl hb; simp [Value.ownBlock] at hb, Stab.refl _ _ _, H3.out.2.2, H3.out.2.1, fun b hb ho => by rcases ho with ho | ho; exact hRO b hb (.inl ho); simp [Value.ownBlock] at ho⟩, by simp [intV]; omega⟩
          · have h3 : Scn W3 g (.slice none 0 0) 0 ((fed0 : Int) + (i : Int) + 1) := hk3.same _ _ HZ.out.1 (.inr rfl)
            have H3 := Lib.hid h3
            clear h3 hk3 hy
            gi_wp2_with (fail)
            go_wp2_with (fail)
            rw [Exit.noGoto_ret]
            have hfin : EacFinX X g base xs0 n0 fed0 l (sgs xs0 n0 fed0 l) false m (fun b => b = g) W3 := And.intro (fun h => by cases h) (fun _ => ⟨_, HSL.out.2, fun b => Iff.rfl, by rw [show (((fed0 + i - n : Nat) : Int)) + (n : Int) + 1 = (fed0 : Int) + (i : Int) + 1 by omega]; exact H3.out⟩)
            refine bodyPost_ret (results_none rfl _ _ _) rfl ⟨⟨_, rfl⟩, (fun b => b = g), (fun b => b = g), W3, m, trivial, fun b hb => .inl hb, Stab.refl _ _ _, Or.inr ?_⟩
            exact And.intro (List.getElem?_eq_some_iff.1 HSL.out.2).1 (And.intro hJ3 hfin)
      · have hy2 : (y != 0) = true := by simpa using hy
        have HYN := Lib.hid hy
        clear hy
        go_wp2_with (fail)
        refine (take_callX X wr (fun b h => Nat.lt_of_lt_of_le (hX b h) hswr) g base vh xs n _ y HR0.out.1 HR0.out.2.1 hbs (by omega) hx1).mono ?_
        rintro e W1 ⟨⟨v, rfl⟩, vh', h1, R1, s1, o1⟩
        have hS1 : W1.heap[Bs]? = some (.cells #[.pointer (some ⟨g, 0, none⟩)] 23 (0, 0)) := s1.block HSW.out hnS rfl
        have cS1 : W1.cell? ⟨Bs, 0, none⟩ = some (.pointer (some ⟨g, 0, none⟩)) := by simp [World.cell?, hS1]
        have c2 := h1.c2
        have f2 := h1.fz 2
        have hfd : IntKind.u64.wrap (((fed0 + i : Nat) : Int) + 1) = ((fed0 + (i + 1) : Nat) : Int) := by rw [u64_id (by omega) (by omega)]; omega
        have h2 := h1.s2 ((fed0 : Int) + (i : Int) + 1)
        have HF := Lib.hid (And.intro h2 (And.intro R1 (And.intro s1 o1)))
        clear h1 h2 R1 s1 o1 hS1
        go_wp2_with (fail)
        have st2 : Stab (Own g vh') W0.heap.size W1 (W1.setCell ⟨g, 2, none⟩ (.int .u64 ((fed0 : Int) + (i : Int) + 1))) := Stab.setT (T := Own g vh') (p := ⟨g, 2, none⟩) W1 (.inl rfl) _
        have hOT' : ∀ b, Own g vh' b → T b ∨ W0.heap.size ≤ b := fun b hb => by
          rcases HF.out.2.2.2 b hb with h | h
          · exact HR0.out.2.2.2.1 b h
          · exact .inr (Nat.le_trans HR0.out.2.2.2.2.1.size h)
        refine ⟨⟨i + 1, m, vh', tk xs n y, n + 1, W0, T, dn, by simp, hlt, by rw [show ((fed0 + (i + 1) : Nat) : Int) = (fed0 : Int) + (i : Int) + 1 by omega]; exact HF.out.1, Kd.R_far (p := ⟨g, 2, none⟩) HF.out.2.1 (fun k hk => hk.1) _, (tk_len ⟨hx1, hx2⟩ y).1, (tk_len ⟨hx1, hx2⟩ y).2, by omega, Lib.hid (by rw [HS.out, HG.out.1, if_neg HYN.out]; rfl), Lib.hid (by rw [HH.out, HG.out.2, if_neg HYN.out]), hdn, HR0.out.2.2.1, hOT', ?_, HR0.out.2.2.2.2.2.1, ?_, fun b hb ho => by
          rcases HF.out.2.2.2 b ho with h | h
          · exact hRO b hb h
          · have := (hRl b hb).1; omega⟩, by simp [intV]; omega⟩
        · exact (HR0.out.2.2.2.2.1.trans HF.out.2.2.1.any HR0.out.2.2.2.1).trans st2 hOT'
        · exact (HR0.out.2.2.2.2.2.2.1.trans (Keep.of_stab HF.out.2.2.1 (fun b hb _ => HNO.out.1 b hb))).trans (Keep.setCell _ HNO.out.2 _)
    · have hie : i = l.length := by omega
      subst hie
      have hlt2 : ((l.length : Int) < (l.length : Int)) = False := eq_false (by omega)
      have HR0 := Lib.hid (And.intro hSc (And.intro hRr (And.intro hJ (And.intro hOT hst))))
      clear hlt hSc hRr hJ hOT hst hk hbr hSwr hBwr
      go_wp2_with (fail)
      rw [Exit.noGoto_normal]
      go_end0
      have hs0 := HS.out
      have hh0 := HH.out
      rw [List.drop_length] at hs0 hh0
      simp only [sgs, List.append_nil] at hs0
      simp only [hld] at hh0
      refine ⟨⟨_, rfl⟩, T, Own g vh, W0, m, trivial, HR0.out.2.2.2.1, HR0.out.2.2.2.2, .inl ⟨by rw [hs0, hdn], HR0.out.2.2.1, ⟨fun _ => ⟨vh, fun b => Iff.rfl, by rw [hh0]; exact HR0.out.1, by rw [hh0]; exact HR0.out.2.1⟩, fun h => by cases h⟩⟩⟩
end Go.Proofs.Ytmkhhnhoodneeaa
