/- scan: what Feed hands back, where the blocks of X are none of its own: these bytes lie in none of X. -/
import Derived.Test.YtmkhhnhoodneeaaEax
import Derived.Test.YtmkhhnhoodneeaaFdc
set_option linter.unusedVariables false
set_option linter.unusedSimpArgs false
namespace Go.Proofs.Ytmkhhnhoodneeaa
open Go.RowKit Go.Proofs.YtmkhhnhoodneeaaW.PrintWords Go.Proofs.YtmkhhnhoodneeaaW.PrintMore
attribute [local go_sem] Oper.semAt_some

/-- Between two rounds of Feed's loop. -/
def FeedIX (X0 : Nat → Prop) (w : World) (g : Nat) (vh : Value) (L : List P.S39) (k : Nat) (T : Nat → Prop) (W : World) : Prop :=
  ∃ v, Boxed W w.heap.size 28 v ∧ SegRow (w.heap.size + 3) W (fun b => T b ∨ X0 b) v (L.take k) ∧ ¬ T w.heap.size ∧ (∀ b, T b → Own g vh b ∨ w.heap.size ≤ b) ∧ Stab (Own g vh) w.heap.size w W ∧ w.heap.size + 3 ≤ W.heap.size
theorem or_step {T T' X0 : Nat → Prop} {n : Nat} (h : ∀ b, T' b → T b ∨ n ≤ b) : ∀ b, (T' b ∨ X0 b) → (T b ∨ X0 b) ∨ n ≤ b := fun b hb => by
  rcases hb with hb | hb
  · exact (h b hb).imp .inl id
  · exact .inl (.inr hb)
set_option maxRecDepth 100000 in
set_option maxHeartbeats 4000000 in
theorem feed_callX (X0 : Nat → Prop) (Rl : Nat → Prop) (w : World) (g base : Nat) (A : Option Addr) (c : Nat) (l : List Int) (vh : Value) (xs : List Int) (n fed : Nat) (hg : Scn w g vh n fed) (hR : (Kd.int .u8).R 5 w base (fun k => k ≠ g ∧ ¬ X0 k) vh xs)
    (hx : xs.length ≤ 255 ∧ xs.length ≤ n) (hn : n ≤ fed) (hf : fed + l.length ≤ 1000000) (hc : l.length ≤ c) (hr : Kd.F (Kd.int .u8) w Rl A l.length l) (hRl : ∀ b, Rl b → b < w.heap.size ∧ ¬ Own g vh b) (hbw : base ≤ w.heap.size) (hX0 : ∀ b, X0 b → b < w.heap.size) :
    Calls Try.prog 11 #[.pointer (some ⟨g, 0, none⟩), .slice A l.length c] w fun e w' => ∃ (v vh' : Value), e = .returned v ∧ SegRow w.heap.size w' (fun b => Own g vh' b ∨ X0 b) v (sgs xs n fed l) ∧ Scn w' g vh' ((hld xs n l).2 : Int) ((fed + l.length : Nat) : Int) ∧ (Kd.int .u8).R 5 w' base (fun k => k ≠ g ∧ ¬ X0 k) vh' (hld xs n l).1 ∧ Stab (Own g vh) w.heap.size w w' ∧ (∀ b, Own g vh' b → Own g vh b ∨ w.heap.size ≤ b) := by
  have hLl : (sgs xs n fed l).length ≤ l.length := by
    clear hg hR hx hn hf hc hr
    have : ∀ (l : List Int) (xs : List Int) (n fed : Nat), (sgs xs n fed l).length ≤ l.length := by
      intro l
      induction l with
      | nil => intro xs n fed; simp [sgs]
      | cons y r ih =>
        intro xs n fed
        unfold sgs
        split
        · split
          · exact Nat.le_trans (ih _ _ _) (by simp)
          · simp only [List.length_cons]; have := ih [] 0 (fed + 1); omega
        · exact Nat.le_trans (ih _ _ _) (by simp)
    exact this l xs n fed
  have hOlt : ∀ b, Own g vh b → b < w.heap.size := fun b hb => by
    rcases hb with hb | hb
    · rw [hb]; exact hg.lt
    · exact Kd.R_lt hR b hb
  refine (callsIn_wide (n := 5)).1 (callsIn_of_wp_marks Try.func11 rfl trivial ?_ rfl)
  simp only [Try.ntmps11, List.size_toArray, List.length_cons, List.length_nil, Nat.reduceAdd, Nat.reduceSub, Array.replicate_succ, Array.replicate_zero, List.push_toArray, List.append_toArray, List.nil_append, List.cons_append]
  refine wpIn_wide.2 ?_
  go_wp2_with (go_at_call 9; refine (each_call _ _ _ rfl _ _ _ _ rfl).mono ?_; rintro e w' ⟨rfl, rfl⟩)
  have hbY : Below w.heap.size w (((w.alloc (.cells #[.slice none 0 0] 28)).alloc (.cells #[.pointer (some ⟨g, 0, none⟩)] 23)).alloc (.cells #[.slice A l.length c] 22)) := (((Below.refl _ w).alloc (Nat.le_refl _) _).alloc (by simp) _).alloc (by simp; omega) _
  obtain ⟨Y, hY⟩ : ∃ Y, (((w.alloc (.cells #[.slice none 0 0] 28)).alloc (.cells #[.pointer (some ⟨g, 0, none⟩)] 23)).alloc (.cells #[.slice A l.length c] 22)) = Y := ⟨_, rfl⟩
  have hsY : Y.heap.size = w.heap.size + 3 := by rw [← hY]; simp
  have bO : Boxed Y w.heap.size 28 (.slice none 0 0) := by rw [← hY]; exact ((Boxed.new w 28 _).alloc _).alloc _
  have bP : Boxed Y (w.heap.size + 1) 23 (.pointer (some ⟨g, 0, none⟩)) := by rw [← hY]; have := (Boxed.new (w.alloc (.cells #[.slice none 0 0] 28)) 23 (.pointer (some ⟨g, 0, none⟩))).alloc (.cells #[.slice A l.length c] 22); rwa [World.size_alloc] at this
  have bB : Boxed Y (w.heap.size + 2) 22 (.slice A l.length c) := by rw [← hY]; have := Boxed.new ((w.alloc (.cells #[.slice none 0 0] 28)).alloc (.cells #[.pointer (some ⟨g, 0, none⟩)] 23)) 22 (.slice A l.length c); rwa [World.size_alloc, World.size_alloc] at this
  rw [hY] at hbY ⊢
  clear hY
  have gY : Scn Y g vh n fed := (hbY.block g hg.lt).trans hg
  have RY : (Kd.int .u8).R 5 Y base (fun k => k ≠ g ∧ ¬ X0 k) vh xs := R_own_same hR (fun k hk => hbY.block k (Kd.R_lt hR k hk))
  have hrY : Kd.F (Kd.int .u8) Y Rl A l.length l := Kd.F_below hr hbY
  refine wp_range (gf := 20) (lb := #[.pointer (some ⟨w.heap.size + 1, 0, none⟩), .pointer (some ⟨w.heap.size + 2, 0, none⟩)]) rfl (enters_of Try.func20 (by kernel_rfl) rfl)
    (each1X X0 Rl Y g base (w.heap.size + 2) (w.heap.size + 1) A c l vh xs n fed bP bB gY RY hx hn hf hc hrY (fun b hb' => ⟨by have := (hRl b hb').1; omega, (hRl b hb').2⟩) (by omega) (fun b h => by have := hX0 b h; omega)) trivial
    (fun b hb' => by rcases hb' with h | h | h; have := (hRl b h).1; all_goals omega) (fun b hb' => by have := hOlt b hb'; omega) (fun k vs T B W h => by obtain ⟨_, _, _, rfl, _⟩ := h; rfl) ?hFin
    (FeedIX X0 w g vh (sgs xs n fed l)) (fun _ _ _ _ => False) ?hI (fun _ _ _ _ _ _ _ _ h _ _ => h.elim) ?h0 ?round ?done ?stop
  case hFin =>
    rintro f k T W W' ⟨h1, h2⟩ hs
    refine And.intro (fun hf' => ?_) (fun hf' => ?_)
    · obtain ⟨v, q1, q2, q3⟩ := h1 hf'
      exact ⟨v, q1, hs.block q2 (fun h => h) rfl, R_own_same q3 (fun k hk => by obtain ⟨cells, hcs⟩ := Kd.R_typed q3 k hk; rw [hcs]; exact hs.block hcs (fun h => h) rfl)⟩
    · obtain ⟨s, q1, q2, q3⟩ := h2 hf'
      exact ⟨s, q1, q2, hs.block q3 (fun h => h) rfl⟩
  case hI =>
    rintro k T T' W W' _ _ ⟨v, h1, h2, h3, h4, h5, h6⟩ hs hT'
    refine ⟨v, boxed_stab h1 hs h3, h2.step (hs.more (fun b h => .inl h)) (or_step hT'), fun h => ?_, fun b hb' => ?_, h5.trans (hs.lower (by omega)) h4, Nat.le_trans h6 hs.size⟩
    · rcases hT' _ h with h | h
      · exact h3 h
      · omega
    · rcases hT' b hb' with h | h
      · exact h4 b h
      · exact .inr (by omega)
  case h0 => exact ⟨_, bO, SegRow.nil _ _ _, fun h => by have := hOlt _ h; omega, fun b hb' => .inl hb', Stab.of_below hbY, by omega⟩
  case round =>
    rintro l' n' k T T1 W0 X vs hk _ _ hI hT1 hst ⟨s, As, hseg, rfl, hby, hsc, hTg⟩ hRb
    have hI2 : FeedIX X0 w g vh (sgs xs n fed l) k T1 X := by
      obtain ⟨v, h1, h2, h3, h4, h5, h6⟩ := hI
      refine ⟨v, boxed_stab h1 hst h3, h2.step (hst.more (fun b h => .inl h)) (or_step hT1), fun h => ?_, fun b hb' => ?_, h5.trans (hst.lower (by omega)) h4, Nat.le_trans h6 hst.size⟩
      · rcases hT1 _ h with h | h
        · exact h3 h
        · omega
      · rcases hT1 b hb' with h | h
        · exact h4 b h
        · exact .inr (by omega)
    clear hI
    gi_wp2
    refine ⟨(Below.refl _ X).alloc (Nat.le_refl _) _, fun W2 hs => ?_⟩
    have bA : Below X.heap.size X (X.alloc (.cells #[.slice As s.f0.length s.f0.length, .bool s.f1, .int .i64 s.f2, .int .u64 s.f3] 39)) := (Below.refl _ X).alloc (Nat.le_refl _) _
    have hX4 : B4 (X.alloc (.cells #[.slice As s.f0.length s.f0.length, .bool s.f1, .int .i64 s.f2, .int .u64 s.f3] 39)) X.heap.size (.slice As s.f0.length s.f0.length) (.bool s.f1) (.int .i64 s.f2) (.int .u64 s.f3) := World.alloc_heap_new _ _
    have h24 : B4 W2 X.heap.size (.slice As s.f0.length s.f0.length) (.bool s.f1) (.int .i64 s.f2) (.int .u64 s.f3) := hs.block hX4 (fun h => h) rfl
    have hs0 : w.heap.size ≤ W2.heap.size := by obtain ⟨v, q1, q2, q3, q4, q5, q6⟩ := hI2; have := bA.size; have := hs.size; omega
    have sF : Stab (fun _ => False) Y.heap.size X W2 := (Stab.of_below bA).trans hs (fun b h => h.elim)
    have hby2 : BytesT W2 (fun b => T1 b ∨ X0 b) As s.f0 := hby.stepn sF.falseT (fun b hb => .inl hb)
    have hT1s : ∀ b, (T1 b ∨ X0 b) → b < W2.heap.size := fun b hb => by
      rcases hb with hb | hb
      · exact Nat.lt_of_lt_of_le (hRb b (.inr hb)) sF.size
      · have := hX0 b hb; have := hs0; omega
    obtain ⟨v, h1, h2, h3, h4, h5, h6⟩ := hI2
    have h1 := boxed_stab h1 sF (fun h => h)
    have h2 := h2.step sF.falseT (fun b hb => .inl hb)
    have h5 : Stab (Own g vh) w.heap.size w W2 := h5.trans (sF.lower (by omega)) (fun b h => h.elim)
    have h6 : w.heap.size + 3 ≤ W2.heap.size := Nat.le_trans h6 sF.size
    have hlt : ((sgs xs n fed l).take k).length ≤ 1000000 := by rw [List.length_take]; omega
    obtain ⟨v1, w1, hrun, S1, g1, at1⟩ := h2.append hby2 h6 hlt hT1s
    obtain ⟨A1, c1, ev⟩ := S1.slice
    obtain ⟨q, hq⟩ : ∃ q, ((sgs xs n fed l).take k ++ [s]).length = q := ⟨_, rfl⟩
    rw [hq] at ev
    subst ev
    have hty := h2.typed
    have b1 : Boxed w1 w.heap.size 28 v := boxed_app h1 g1 (fun k' e => by have := (hty k' e).2; omega)
    have k1 : Keep (fun b => (Rl b ∨ b = w.heap.size + 2 ∨ b = w.heap.size + 1) ∨ T1 b) W2 w1 := Keep.grown g1 (fun k' e h => by
      have h7 := (hty k' e).2
      rcases h with (h | h | h) | h
      · have := (hRl k' h).1; omega
      · omega
      · omega
      · exact h2.1 k' e (.inl h))
    have o1 : Books W2 w1 := books_row g1 (fun k' e => (hty k' e).1)
    have k2 : Keep (fun b => (Rl b ∨ b = w.heap.size + 2 ∨ b = w.heap.size + 1) ∨ T1 b) w1 (w1.setCell ⟨w.heap.size, 0, none⟩ (.slice A1 q c1)) := Keep.setCell _ (fun h => by
      rcases h with (h | h | h) | h
      · have := (hRl _ h).1; simp at this
      · simp at h
      · simp at h
      · exact h3 h) _
    have S2 : SegRow (w.heap.size + 3) (w1.setCell ⟨w.heap.size, 0, none⟩ (.slice A1 q c1)) (fun b => T1 b ∨ X0 b) (.slice A1 q c1) ((sgs xs n fed l).take k ++ [s]) := (S1.add b1).step (Stab.setT (T := fun b => (T1 b ∨ X0 b) ∨ b = w.heap.size) (n := 0) (p := ⟨w.heap.size, 0, none⟩) w1 (.inr rfl) _) (fun b hb => .inl (.inl hb))
    have h7 : Stab (Own g vh) w.heap.size w (w1.setCell ⟨w.heap.size, 0, none⟩ (.slice A1 q c1)) := (h5.trans (Stab.grownT (T := fun b => w.heap.size ≤ b) g1 (fun k' e => by have := (hty k' e).2; omega)) (fun b hb => .inr hb)).trans (Stab.setT (T := fun b => w.heap.size ≤ b) (p := ⟨w.heap.size, 0, none⟩) w1 (Nat.le_refl _) _) (fun b hb => .inr hb)
    have htk : (sgs xs n fed l).take (k + 1) = (sgs xs n fed l).take k ++ [s] := by rw [List.take_add_one, hseg]; rfl
    have hfin : FeedIX X0 w g vh (sgs xs n fed l) (k + 1) T1 (w1.setCell ⟨w.heap.size, 0, none⟩ (.slice A1 q c1)) := ⟨.slice A1 q c1, b1.set _, by rw [htk]; exact S2, h3, h4, h7, by have := k1.size; simp [World.setCell]; omega⟩
    have HF := Lib.hid (And.intro (k1.trans k2) (And.intro (o1.trans (Books.setCell w1 ⟨w.heap.size, 0, none⟩ (.slice A1 q c1))) hfin))
    have cO := h1.cell
    have fO := b1.frozen
    have cO1 := b1.cell
    obtain ⟨x0, x1, x2, x3⟩ := h24.c
    clear hs bA hX4 h24 sF hby2 hT1s h1 h2 h3 h4 h5 h6 S1 g1 at1 b1 k1 o1 k2 S2 h7 htk hfin hby hsc hTg hRb hst hT1 hty hseg
    gi_wp2_with (gi_at_builtin; refine runIn_app _ _ _ (by kernel_rfl) rfl hrun ?_)
    exact HF.out
  case done =>
    rintro D T W ⟨v, h1, h2, h3, h4, h5, h6⟩ ⟨hF, _⟩ hD hd
    obtain ⟨vh', q1, q2, q3⟩ := hF rfl
    rw [List.take_length] at h2
    obtain ⟨A1, c1, rfl⟩ := h2.slice
    have hcb := h1.cell
    have st := stab_shut (T := fun _ => False) (n := w.heap.size) hd (by omega)
    have hdt : ¬ T D := fun h => by
      have := (q1 D).1 h
      rcases this with e | e
      · subst e; have q2' : W.heap[D]? = _ := q2; rw [hd] at q2'; cases q2'
      · obtain ⟨cs, hcs⟩ := Kd.R_typed q3 D e; rw [hd] at hcs; cases hcs
    have S2 : SegRow w.heap.size (W.putObj D (.deferred none)) (fun b => Own g vh' b ∨ X0 b) (.slice A1 (sgs xs n fed l).length c1) (sgs xs n fed l) := (h2.step st.falseT (fun b hb => .inl (hb.imp (q1 b).2 id))).lower (by omega)
    have g2 : Scn (W.putObj D (.deferred none)) g vh' _ _ := st.block q2 (fun h => h) rfl
    have R2 : (Kd.int .u8).R 5 (W.putObj D (.deferred none)) base (fun k => k ≠ g ∧ ¬ X0 k) vh' (hld xs n l).1 := R_own_same q3 (fun k hk => by obtain ⟨cells, hcs⟩ := Kd.R_typed q3 k hk; rw [hcs]; exact st.block hcs (fun h => h) rfl)
    have s2 : Stab (Own g vh) w.heap.size w (W.putObj D (.deferred none)) := h5.trans st (fun b h => h.elim)
    have HH := Lib.hid (And.intro S2 (And.intro g2 (And.intro R2 (And.intro s2 (And.intro (fun b hb => h4 b ((q1 b).2 hb)) hd)))))
    clear h1 h2 h3 h4 h5 h6 q1 q2 q3 S2 g2 R2 s2 hd hdt st
    go_wp2_with (fail)
    exact marks_ret (v := .slice A1 (sgs xs n fed l).length c1) (by simp [results, Try.results11, Act.put, go_sem]) (by simp [Act.put]) HH.out.2.2.2.2.2 ⟨.slice A1 (sgs xs n fed l).length c1, rfl, vh', HH.out.1, HH.out.2.1, HH.out.2.2.1, HH.out.2.2.2.1, HH.out.2.2.2.2.1⟩
  case stop =>
    rintro D c k T W _ h
    exact h.elim
end Go.Proofs.Ytmkhhnhoodneeaa
