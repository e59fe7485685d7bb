/- scan: a scanner that a law has made: its words in one piece. -/
import Derived.Test.YtmkhhnhoodneeaaSgl
import Derived.Test.YtmkhhnhoodneeaaSam
set_option linter.unusedVariables false
set_option linter.unusedSimpArgs false
namespace Go.Proofs.Ytmkhhnhoodneeaa
open Go.RowKit Go.Proofs.YtmkhhnhoodneeaaW.PrintWords Go.Proofs.YtmkhhnhoodneeaaW.PrintMore
attribute [local go_sem] Oper.semAt_some

theorem hld_len : ∀ (l xs : List Int) (n : Nat), xs.length ≤ 255 ∧ xs.length ≤ n → (hld xs n l).1.length ≤ 255 ∧ (hld xs n l).1.length ≤ (hld xs n l).2
  | [], xs, n, h => by simpa [hld] using h
  | c :: l, xs, n, h => by
    simp only [hld]
    split
    · exact hld_len l [] 0 (by simp)
    · exact hld_len l _ _ (tk_len h c)
theorem hld_le : ∀ (l xs : List Int) (n : Nat), (hld xs n l).2 ≤ n + l.length
  | [], xs, n => by simp [hld]
  | c :: l, xs, n => by
    simp only [hld, List.length_cons]
    split
    · have := hld_le l [] 0; omega
    · have := hld_le l (tk xs n c) (n + 1); omega
/-- Where segments lie. -/
theorem sgs_in : ∀ (l xs : List Int) (n fed : Nat) (s : P.S39), s ∈ sgs xs n fed l → n ≤ fed → 0 ≤ s.f3 ∧ s.f3 + s.f2 + 1 ≤ (fed + l.length : Nat) ∧ 0 < s.f2
  | [], xs, n, fed, s, h, _ => by simp [sgs] at h
  | c :: l, xs, n, fed, s, h, hn => by
    have e : fed + 1 + l.length = fed + (c :: l).length := by simp only [List.length_cons]; omega
    simp only [sgs] at h
    split at h
    · split at h
      · have q := sgs_in l [] 0 (fed + 1) s h (by omega)
        rwa [e] at q
      · rcases List.mem_cons.1 h with h | h
        · subst h
          simp only [List.length_cons]
          refine ⟨by omega, by omega, by omega⟩
        · have q := sgs_in l [] 0 (fed + 1) s h (by omega)
          rwa [e] at q
    · have q := sgs_in l _ _ _ s h (by omega)
      rwa [e] at q

/-- A scanner that came after base. -/
def Live (base : Nat) (W : World) (g : Nat) (vh : Value) (xs : List Int) (n fed : Nat) : Prop :=
  Scn W g vh n fed ∧ (Kd.int .u8).R 5 W base (fun k => k ≠ g) vh xs ∧ (xs.length ≤ 255 ∧ xs.length ≤ n) ∧ n ≤ fed ∧ base ≤ g ∧ base ≤ W.heap.size
theorem Live.own_ge {base : Nat} {W : World} {g : Nat} {vh : Value} {xs : List Int} {n fed : Nat} (h : Live base W g vh xs n fed) {b : Nat} (hb : Own g vh b) : base ≤ b := by
  rcases hb with rfl | hb
  · exact h.2.2.2.2.1
  · exact Kd.R_base h.2.1 b hb
theorem Live.own_lt {base : Nat} {W : World} {g : Nat} {vh : Value} {xs : List Int} {n fed : Nat} (h : Live base W g vh xs n fed) {b : Nat} (hb : Own g vh b) : b < W.heap.size := by
  rcases hb with rfl | hb
  · exact h.1.lt
  · exact Kd.R_lt h.2.1 b hb
theorem Live.own_ty {base : Nat} {W : World} {g : Nat} {vh : Value} {xs : List Int} {n fed : Nat} (h : Live base W g vh xs n fed) {b : Nat} (hb : Own g vh b) : ∃ cs t, W.heap[b]? = some (.cells cs t (0, 0)) ∧ (t = 51 ∨ t = 5) := by
  rcases hb with rfl | hb
  · exact ⟨_, _, h.1, .inl rfl⟩
  · obtain ⟨c, hc⟩ := Kd.R_typed h.2.1 b hb
    exact ⟨_, _, hc, .inr rfl⟩
theorem Live.slice {base : Nat} {W : World} {g : Nat} {vh : Value} {xs : List Int} {n fed : Nat} (h : Live base W g vh xs n fed) : ∃ A c, vh = .slice A xs.length c := Kd.R_slice h.2.1
theorem Live.new (base : Nat) (W : World) (hb : base ≤ W.heap.size) : Live base (W.alloc (.cells #[.slice none 0 0, .int .i64 0, .int .u64 0] 51)) W.heap.size (.slice none 0 0) [] 0 0 :=
  ⟨World.alloc_heap_new W _, Kd.R_nil _ _ _ _ _, by simp, Nat.le_refl _, hb, by simp; omega⟩
/-- A step that writes none of its blocks. -/
theorem Live.step {base n0 : Nat} {W W' : World} {g : Nat} {vh : Value} {xs : List Int} {n fed : Nat} {T : Nat → Prop} (h : Live base W g vh xs n fed) (hs : Stab T n0 W W') (hT : ∀ b, Own g vh b → ¬ T b) : Live base W' g vh xs n fed :=
  ⟨hs.block h.1 (hT g (.inl rfl)) rfl, R_own_same h.2.1 (fun k hk => by
    obtain ⟨cells, hcs⟩ := Kd.R_typed h.2.1 k hk
    rw [hcs]; exact hs.block hcs (hT k (.inr hk)) rfl), h.2.2.1, h.2.2.2.1, h.2.2.2.2.1, Nat.le_trans h.2.2.2.2.2 hs.size⟩
theorem Live.below {base : Nat} {W W' : World} {g : Nat} {vh : Value} {xs : List Int} {n fed : Nat} (h : Live base W g vh xs n fed) (hb : Below W.heap.size W W') : Live base W' g vh xs n fed := h.step (T := fun _ => False) (n0 := 0) (Stab.of_below hb) (fun _ _ h => h)
theorem newL (base : Nat) (W : World) (hb : base ≤ W.heap.size) : Calls Try.prog 16 #[] W fun e W' => e = .returned (.pointer (some ⟨W.heap.size, 0, none⟩)) ∧ Live base W' W.heap.size (.slice none 0 0) [] 0 0 ∧ Below W.heap.size W W' ∧ W'.heap.size = W.heap.size + 1 := by
  refine (new_call W).mono ?_
  rintro e W' ⟨rfl, rfl⟩
  exact ⟨rfl, Live.new base W hb, (Below.refl _ W).alloc (Nat.le_refl _) _, by simp⟩
theorem own_new {g : Nat} {b : Nat} (h : Own g (.slice none 0 0) b) : b = g := by
  rcases h with h | h
  · exact h
  · simp [Value.ownBlock] at h
theorem resetL (w W : World) (g : Nat) (vh : Value) (xs : List Int) (n fed : Nat) (hL : Live w.heap.size W g vh xs n fed) (hb : Below w.heap.size w W) : Calls Try.prog 8 #[.pointer (some ⟨g, 0, none⟩)] W fun e W' => (∃ v, e = .returned v) ∧ Live w.heap.size W' g (.slice none 0 0) [] 0 fed ∧ Below w.heap.size w W' ∧ Stab (fun b => b = g) W.heap.size W W' := by
  refine (reset_call W g _ _ _ hL.1).mono ?_
  rintro e W' ⟨h, hg, hs⟩
  exact ⟨h, ⟨hg, Kd.R_nil _ _ _ _ _, by simp, by omega, hL.2.2.2.2.1, Nat.le_trans hL.2.2.2.2.2 hs.size⟩, hs.below hb hb.size hb.size (fun b h1 h2 => by have := hL.2.2.2.2.1; omega), hs⟩
theorem heldL {base : Nat} {W : World} {g : Nat} {vh : Value} {xs : List Int} {n fed : Nat} (hL : Live base W g vh xs n fed) : Calls Try.prog 12 #[.pointer (some ⟨g, 0, none⟩)] W fun e W' => e = .returned (.int .i64 xs.length) ∧ W' = W := by
  obtain ⟨A, c, rfl⟩ := hL.slice
  exact held_call W g A _ c _ _ hL.1
theorem fedL {base : Nat} {W : World} {g : Nat} {vh : Value} {xs : List Int} {n fed : Nat} (hL : Live base W g vh xs n fed) : Calls Try.prog 13 #[.pointer (some ⟨g, 0, none⟩)] W fun e W' => e = .returned (.int .u64 fed) ∧ W' = W := fed_call W g _ _ _ hL.1
theorem openL {base : Nat} {W : World} {g : Nat} {vh : Value} {xs : List Int} {n fed : Nat} (hL : Live base W g vh xs n fed) : Calls Try.prog 14 #[.pointer (some ⟨g, 0, none⟩)] W fun e W' => e = .returned (.bool (decide (0 < n))) ∧ W' = W := by
  refine (open_call W g _ _ _ hL.1).mono ?_
  rintro e W' ⟨rfl, rfl⟩
  exact ⟨by rw [show decide (0 < (n : Int)) = decide (0 < n) by rw [decide_eq_decide]; omega], rfl⟩
/-- Feed, of bytes that were there first. -/
theorem feedL (w W : World) (g : Nat) (A : Option Addr) (c : Nat) (l : List Int) (vh : Value) (xs : List Int) (n fed : Nat) (hL : Live w.heap.size W g vh xs n fed) (hb : Below w.heap.size w W) (hf : fed + l.length ≤ 1000000) (hc : l.length ≤ c) (hr : (Kd.int .u8).C w A l.length l) :
    Calls Try.prog 11 #[.pointer (some ⟨g, 0, none⟩), .slice A l.length c] W fun e W' => ∃ (v vh' : Value), e = .returned v ∧ Live w.heap.size W' g vh' (hld xs n l).1 (hld xs n l).2 (fed + l.length) ∧ SegRow W.heap.size W' (Own g vh') v (sgs xs n fed l) ∧ Below w.heap.size w W' ∧ Stab (Own g vh) W.heap.size W W' ∧ (∀ b, Own g vh' b → Own g vh b ∨ W.heap.size ≤ b) := by
  have hF : Kd.F (Kd.int .u8) W (fun k => k < w.heap.size) A l.length l := Kd.F_step (Kd.C_F (Kd.heap_int .u8) hr) (fun k hk _ => hb.block k hk)
  refine (feed_call (fun k => k < w.heap.size) W g w.heap.size A c l vh xs n fed hL.1 hL.2.1 hL.2.2.1 hL.2.2.2.1 hf hc hF (fun b hb' => ⟨Nat.lt_of_lt_of_le hb' hb.size, fun h => by have := hL.own_ge h; omega⟩) hL.2.2.2.2.2).mono ?_
  rintro e W' ⟨v, vh', rfl, hS, hg, hR, hs, ho⟩
  exact ⟨v, vh', rfl, ⟨hg, hR, hld_len l xs n hL.2.2.1, by have := hld_le l xs n; have := hL.2.2.2.1; omega, hL.2.2.2.2.1, Nat.le_trans hL.2.2.2.2.2 hs.size⟩, hS, hs.below hb hb.size hb.size (fun b h1 h2 => by have := hL.own_ge h2; omega), hs, ho⟩
/-- A row of segments, where other blocks are the ones that are written: blocks of a scanner that it does not share. -/
theorem SegRow.other {base : Nat} {W : World} {T T' : Nat → Prop} {v : Value} {L : List P.S39} (h : SegRow base W T v L) (h1 : ∀ b, T' b → ∃ cs t, W.heap[b]? = some (.cells cs t (0, 0)) ∧ (t = 51 ∨ t = 5)) (h2 : ∀ b, T' b → (∃ cs, W.heap[b]? = some (.cells cs 5 (0, 0))) → T b) : SegRow base W T' v L := by
  obtain ⟨h0, rows, hl, hR, hf⟩ := h
  refine ⟨fun b hb ht => ?_, rows, hl, hR, fun j s hj => ?_⟩
  · obtain ⟨c, hc⟩ := Kd.R_typed hR b hb
    obtain ⟨cs, t, h3, h4⟩ := h1 b ht
    rw [hc] at h3; cases h3; rcases h4 with h4 | h4 <;> cases h4
  · obtain ⟨A, q1, q2⟩ := hf j s hj
    exact ⟨A, q1, Kd.F_mono q2 (fun k hk => ⟨hk.1, fun h => hk.2 (h2 k h hk.1)⟩)⟩
end Go.Proofs.Ytmkhhnhoodneeaa
