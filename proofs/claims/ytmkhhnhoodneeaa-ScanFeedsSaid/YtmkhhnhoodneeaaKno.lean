/- scan: the chapter's example. -/
import Derived.Test.YtmkhhnhoodneeaaFdc
import Derived.Test.YtmkhhnhoodneeaaPx1
set_option linter.unusedVariables false
set_option linter.unusedSimpArgs false
namespace Go.Proofs.Ytmkhhnhoodneeaa
open Go.RowKit Go.Proofs.YtmkhhnhoodneeaaW.PrintWords Go.Proofs.YtmkhhnhoodneeaaW.PrintMore
attribute [local go_sem] Oper.semAt_some

/-- Bytes that lie in one block. -/
theorem F_blk {W : World} {b : Nat} {l : List Int} (h : W.heap[b]? = some (.cells (l.map (Value.int .u8)).toArray 5 (0, 0))) (hl : l.length ≤ 1000000) : Kd.F (Kd.int .u8) W (fun k => k = b) (some ⟨b, 0, none⟩) l.length l := by
  intro W' hW
  have hb : W'.heap[b]? = _ := (hW b rfl (Array.getElem?_eq_some_iff.1 h).1).trans h
  refine ⟨rfl, by omega, fun _ => ⟨_, rfl, fun j p hj => ⟨[.int .u8 p], rfl, rfl, fun i u hu => ?_⟩⟩⟩
  cases i with
  | zero =>
    simp at hu
    subst hu
    cases j with
    | zero => simp [World.cell?, Addr.add, hb, Kd.int, Kd.scalar, hj]
    | succ j => simp [World.cell?, Addr.add, hb, Kd.int, Kd.scalar, hj]
  | succ i => simp at hu
/-- The cells of a row of segments. -/
theorem SegRow.at_ {base : Nat} {W : World} {T : Nat → Prop} {A : Option Addr} {c : Nat} {L : List P.S39} (h : SegRow base W T (.slice A L.length c) L) (j : Nat) (s : P.S39) (hj : L[j]? = some s) : ∃ ad B, A = some ad ∧ BytesT W T B s.f0 ∧ ∀ i u, (segC B s)[i]? = some u → W.cell? (ad.add (j * 4 + i)) = some u := by
  obtain ⟨h0, rows, hl, hR, hf⟩ := h
  obtain ⟨B, h1, h2⟩ := hf j s hj
  have hr := (Kd.R_reads' hR).2.2
  have hjl : j < rows.length := (List.getElem?_eq_some_iff.1 h1).1
  obtain ⟨ad, e, hc⟩ := hr.2.2 (by omega)
  obtain ⟨cs, q1, q2, q3⟩ := hc j _ h1
  rw [q2.1] at q3
  exact ⟨ad, B, e, h2, q3⟩
def ex1 : List P.S39 := [⟨[5, 6], false, 2, 0⟩, ⟨[7], false, 1, 3⟩]
theorem ex_sgs : sgs [5, 6] 2 2 [0, 7, 0] = ex1 := by simp [sgs, tk, ex1]
set_option maxRecDepth 100000 in
set_option maxHeartbeats 4000000 in
theorem known_call (X : World) : Calls Try.prog 10 #[] X fun e w' => e = .returned (.bool true) ∧ Below X.heap.size X w' := by
  go_enter Try.func10, Try.ntmps10
  go_wp2_with (go_at_call 16; refine (new_call X).mono ?_; rintro e w' ⟨rfl, rfl⟩)
  have b2 : Below X.heap.size X ((X.alloc (.cells #[.slice none 0 0, .int .i64 0, .int .u64 0] 51)).alloc (.cells #[.int .u8 5, .int .u8 6] 5)) := ((Below.refl _ X).alloc (Nat.le_refl _) _).alloc (by simp) _
  obtain ⟨X2, hX2⟩ : ∃ X2, ((X.alloc (.cells #[.slice none 0 0, .int .i64 0, .int .u64 0] 51)).alloc (.cells #[.int .u8 5, .int .u8 6] 5)) = X2 := ⟨_, rfl⟩
  have hs2 : X2.heap.size = X.heap.size + 2 := by rw [← hX2]; simp
  have g2 : Scn X2 X.heap.size (.slice none 0 0) ((0 : Nat) : Int) ((0 : Nat) : Int) := by
    rw [← hX2]; exact (Below.heap_alloc _ _ _ (by simp)).trans (World.alloc_heap_new X _)
  have l2 : X2.heap[X.heap.size + 1]? = some (.cells (([5, 6] : List Int).map (Value.int .u8)).toArray 5 (0, 0)) := by
    rw [← hX2]; have := World.alloc_heap_new (X.alloc (.cells #[.slice none 0 0, .int .i64 0, .int .u64 0] 51)) (.cells #[.int .u8 5, .int .u8 6] 5); rwa [World.size_alloc] at this
  rw [hX2] at b2 ⊢
  clear hX2
  refine (feed_call (fun k => k = X.heap.size + 1) X2 X.heap.size X2.heap.size (some ⟨X.heap.size + 1, 0, none⟩) 2 [5, 6] (.slice none 0 0) [] 0 0 g2 (Kd.R_nil _ _ _ _ _) (by simp) (Nat.le_refl _) (by decide) (by decide) (F_blk l2 (by decide)) (fun b hb => ⟨by omega, fun h => by rcases h with h | h; omega; simp [Value.ownBlock] at h⟩) (Nat.le_refl _)).mono ?_
  rintro e X3 ⟨v, vh, rfl, S3, g3, R3, s3, o3⟩
  obtain ⟨A3, c3, ev⟩ := S3.slice
  have e0 : (sgs [] 0 0 [5, 6]).length = 0 := by simp [sgs, tk]
  rw [e0] at ev
  subst ev
  have g3 : Scn X3 X.heap.size vh ((2 : Nat) : Int) ((2 : Nat) : Int) := g3
  have R3 : (Kd.int .u8).R 5 X3 X2.heap.size (fun k => k ≠ X.heap.size) vh [5, 6] := R3
  have b3 : Below X.heap.size X X3 := s3.below b2 (by omega) (by omega) (fun b hb h => by rcases h with h | h; omega; simp [Value.ownBlock] at h)
  have hs3 : X2.heap.size ≤ X3.heap.size := s3.size
  clear S3 e0 s3 g2 l2 b2
  go_wp2_with (fail)
  have b4 : Below X.heap.size X (X3.alloc (.cells #[.int .u8 0, .int .u8 7, .int .u8 0] 5)) := b3.alloc (by omega) _
  have bb4 : Below X3.heap.size X3 (X3.alloc (.cells #[.int .u8 0, .int .u8 7, .int .u8 0] 5)) := (Below.refl _ X3).alloc (Nat.le_refl _) _
  have l4 : (X3.alloc (.cells #[.int .u8 0, .int .u8 7, .int .u8 0] 5)).heap[X3.heap.size]? = some (.cells (([0, 7, 0] : List Int).map (Value.int .u8)).toArray 5 (0, 0)) := World.alloc_heap_new _ _
  obtain ⟨X4, hX4⟩ : ∃ X4, (X3.alloc (.cells #[.int .u8 0, .int .u8 7, .int .u8 0] 5)) = X4 := ⟨_, rfl⟩
  have hs4 : X4.heap.size = X3.heap.size + 1 := by rw [← hX4]; simp
  rw [hX4] at b4 bb4 l4 ⊢
  have g4 : Scn X4 X.heap.size vh ((2 : Nat) : Int) ((2 : Nat) : Int) := (bb4.block _ g3.lt).trans g3
  have R4 : (Kd.int .u8).R 5 X4 X2.heap.size (fun k => k ≠ X.heap.size) vh [5, 6] := R_own_same R3 (fun k hk => bb4.block k (Kd.R_lt R3 k hk))
  clear hX4
  refine (feed_call (fun k => k = X3.heap.size) X4 X.heap.size X2.heap.size (some ⟨X3.heap.size, 0, none⟩) 3 [0, 7, 0] vh [5, 6] 2 2 g4 R4 (by decide) (Nat.le_refl _) (by decide) (by decide) (F_blk l4 (by decide)) (fun b hb => ⟨by omega, fun h => by
    rcases h with h | h
    · omega
    · have := Kd.R_lt R3 b h; omega⟩) (by omega)).mono ?_
  rintro e X5 ⟨v, vh5, rfl, S5, g5, R5, s5, o5⟩
  rw [ex_sgs] at S5
  obtain ⟨A5, c5, ev⟩ := S5.slice
  rw [show ex1.length = 2 from rfl] at ev
  subst ev
  have b5 : Below X.heap.size X X5 := s5.below b4 (by omega) (by omega) (fun b hb h => by
    rcases h with h | h
    · omega
    · have := Kd.R_base R4 b h; omega)
  obtain ⟨ad, B0, rfl, y0, q0⟩ := SegRow.at_ (L := ex1) (A := A5) (c := c5) S5 0 ⟨[5, 6], false, 2, 0⟩ rfl
  obtain ⟨ad', B1, e1, y1, q1⟩ := SegRow.at_ (L := ex1) (A := some ad) (c := c5) S5 1 ⟨[7], false, 1, 3⟩ rfl
  cases e1
  have fa : ∀ k, 0 < k → ad.add k = ⟨ad.block, ad.off + k, none⟩ := fun k hk => by
    have := add_field ad 0 k hk
    rwa [Nat.zero_add, Addr.add_zero'] at this
  have p0 : X5.cell? ad = some (.slice B0 2 2) := by have := q0 0 _ rfl; rw [Nat.zero_mul, Nat.zero_add, Addr.add_zero'] at this; exact this
  have p3 : X5.cell? ⟨ad.block, ad.off + 3, none⟩ = some (.int .u64 0) := by have := q0 3 _ rfl; rw [fa _ (by omega)] at this; exact this
  have r0 : X5.cell? ⟨ad.block, ad.off + 4, none⟩ = some (.slice B1 1 1) := by have := q1 0 _ rfl; rw [fa _ (by omega)] at this; exact this
  have r2 : X5.cell? ⟨ad.block, ad.off + 4 + 2, none⟩ = some (.int .i64 1) := by have := q1 2 _ rfl; rw [fa _ (by omega)] at this; exact this
  have r3 : X5.cell? ⟨ad.block, ad.off + 4 + 3, none⟩ = some (.int .u64 3) := by have := q1 3 _ rfl; rw [fa _ (by omega)] at this; exact this
  clear fa
  have C0 := Kd.F_now y0
  have C1 := Kd.F_now y1
  have HB := Lib.hid (And.intro b5 (And.intro C0 C1))
  clear g3 R3 b3 hs3 b4 bb4 l4 hs4 g4 R4 S5 g5 R5 s5 o5 y0 y1 q0 q1 b5 C0 C1 hs2 o3
  go_wp2_with (fail)
  have bb6 : Below X5.heap.size X5 (X5.alloc (.cells #[.int .u8 5, .int .u8 6] 5)) := (Below.refl _ X5).alloc (Nat.le_refl _) _
  have l6 : (X5.alloc (.cells #[.int .u8 5, .int .u8 6] 5)).heap[X5.heap.size]? = some (.cells (([5, 6] : List Int).map (Value.int .u8)).toArray 5 (0, 0)) := World.alloc_heap_new _ _
  refine (P.cuneiformref01_Same.calls 10 B0 2 [5, 6] (some ⟨X5.heap.size, 0, none⟩) 2 [5, 6] true _ (Kd.C_below HB.out.2.1 bb6) (by decide) (Kd.F_now (F_blk l6 (by decide))) (by decide) (by decide +kernel)).mono ?_
  rintro e X7 ⟨rfl, D7⟩
  have b57 : Below X5.heap.size X5 X7 := bb6.trans (D7.below.mono bb6.size)
  have p3' := pw_cell_below b57 p3
  have r0' := pw_cell_below b57 r0
  have r2' := pw_cell_below b57 r2
  have r3' := pw_cell_below b57 r3
  have H7 := Lib.hid b57
  clear p0 p3 r0 r2 r3 bb6 l6 D7 b57
  go_wp2_with (fail)
  have bb8 : Below X7.heap.size X7 (X7.alloc (.cells #[.int .u8 7] 5)) := (Below.refl _ X7).alloc (Nat.le_refl _) _
  have l8 : (X7.alloc (.cells #[.int .u8 7] 5)).heap[X7.heap.size]? = some (.cells (([7] : List Int).map (Value.int .u8)).toArray 5 (0, 0)) := World.alloc_heap_new _ _
  refine (P.cuneiformref01_Same.calls 10 B1 1 [7] (some ⟨X7.heap.size, 0, none⟩) 1 [7] true _ (Kd.C_below (Kd.C_below HB.out.2.2 H7.out) bb8) (by decide) (Kd.F_now (F_blk l8 (by decide))) (by decide) (by decide +kernel)).mono ?_
  rintro e X9 ⟨rfl, D9⟩
  have b79 : Below X7.heap.size X7 X9 := bb8.trans (D9.below.mono bb8.size)
  have b59 : Below X5.heap.size X5 X9 := H7.out.trans (b79.mono H7.out.size)
  have r2'' := pw_cell_below b79 r2'
  have r3'' := pw_cell_below b79 r3'
  have H9 := Lib.hid (HB.out.1.trans (b59.mono HB.out.1.size))
  clear p3' r0' r2' r3' bb8 l8 D9 b79 b59
  go_wp2_with (fail)
  all_goals exact bodyPost_ret (v := .bool true) (by simp [results, Try.results10, go_sem]) rfl ⟨rfl, H9.out⟩
end Go.Proofs.Ytmkhhnhoodneeaa
