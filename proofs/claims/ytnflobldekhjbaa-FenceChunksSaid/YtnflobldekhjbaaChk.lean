/- fence.Chunks: its iterator. -/
import Derived.Test.YtnflobldekhjbaaPlain2
import Derived.Test.YtnflobldekhjbaaSeg
import Derived.Outline
import Derived.Lib.Hide
import Derived.WalkMore
import Derived.LoopTactic
set_option linter.unusedVariables false
set_option linter.unusedSimpArgs false
namespace Go.Proofs.Ytnflobldekhjbaa
open Go.RowKit Go.Proofs.YtnflobldekhjbaaW.PrintWords Go.Proofs.YtnflobldekhjbaaW.PrintMore
attribute [local go_sem] Oper.semAt_some
attribute [local go_sem] max2_int min2_int max_two min_two max_three min_three max_four min_four

/-- No size is more than 0. -/
def whl (sz : List Int) : Bool := sz.all fun x => decide (x ≤ 0)
/-- How many bytes the next part has. -/
def nxt (sz : List Int) (i : Nat) (n : Nat) : Nat := if whl sz = true then n else min n (rd sz ((i % sz.length : Nat) : Int)).toNat
/-- The parts, if so many rounds are enough. -/
def chs : Nat → List Int → Nat → List Int → Option (List (List Int))
  | 0, _, _, _ => none
  | f + 1, sz, i, r => if r = [] then some [] else (chs f sz (i + 1) (r.drop (nxt sz i r.length))).map (r.take (nxt sz i r.length) :: ·)

theorem nxt_le (sz : List Int) (i n : Nat) : nxt sz i n ≤ n := by unfold nxt; split <;> omega
theorem chs_nil {f : Nat} {sz : List Int} {i : Nat} {L : List (List Int)} (h : chs f sz i [] = some L) : L = [] := by
  cases f with
  | zero => simp [chs] at h
  | succ f => simp [chs] at h; exact h
theorem chs_cons {f : Nat} {sz : List Int} {i : Nat} {r : List Int} {L : List (List Int)} (h : chs f sz i r = some L) (hr : r ≠ []) : ∃ g L', f = g + 1 ∧ L = r.take (nxt sz i r.length) :: L' ∧ chs g sz (i + 1) (r.drop (nxt sz i r.length)) = some L' := by
  cases f with
  | zero => simp [chs] at h
  | succ f =>
    unfold chs at h
    rw [if_neg hr] at h
    obtain ⟨L', h1, h2⟩ := Option.map_eq_some_iff.1 h
    exact ⟨f, L', rfl, h2.symm, h1⟩
theorem chs_len : ∀ (f : Nat) (sz : List Int) (i : Nat) (r : List Int) (L : List (List Int)), chs f sz i r = some L → L.length < f
  | 0, _, _, _, _, h => by simp [chs] at h
  | f + 1, sz, i, r, L, h => by
    by_cases hr : r = []
    · subst hr; rw [chs_nil h]; simp
    · obtain ⟨g, L', e, rfl, h'⟩ := chs_cons h hr
      obtain rfl : f = g := by omega
      have := chs_len f _ _ _ _ h'
      simp; exact this
theorem chs_whole {sz : List Int} (h : whl sz = true) (f i : Nat) (r : List Int) : ∃ L, chs (f + 2) sz i r = some L := by
  unfold chs
  split
  · exact ⟨_, rfl⟩
  · refine ⟨_, by rw [show nxt sz i r.length = r.length from if_pos h, List.drop_length]; simp [chs]; rfl⟩
theorem chs_some {sz : List Int} {j : Nat} (hw : whl sz = false) (hj : j < sz.length) (hp : 0 < rd sz (j : Int)) : ∀ (m d i : Nat) (r : List Int), r.length ≤ m → (i + d) % sz.length = j → d < sz.length → ∀ f, m * sz.length + d < f → ∃ L, chs f sz i r = some L := by
  intro m
  induction m with
  | zero =>
    intro d i r hr hd hdk f hf
    obtain rfl : r = [] := List.length_eq_zero_iff.1 (by omega)
    obtain ⟨f, rfl⟩ : ∃ g, f = g + 1 := ⟨f - 1, by omega⟩
    exact ⟨[], by simp [chs]⟩
  | succ m ihm =>
    intro d
    induction d with
    | zero =>
      intro i r hr hd hdk f hf
      obtain ⟨f, rfl⟩ : ∃ g, f = g + 1 := ⟨f - 1, by omega⟩
      by_cases hr0 : r = []
      · subst hr0; exact ⟨[], by simp [chs]⟩
      · have hrl : 0 < r.length := List.length_pos_iff.2 hr0
        have hn : 0 < nxt sz i r.length := by
          unfold nxt; rw [hw, if_neg (by simp)]
          rw [Nat.add_zero] at hd
          rw [hd]; omega
        obtain ⟨d', hd1, hd2⟩ : ∃ d', (i + 1 + d') % sz.length = j ∧ d' < sz.length := ⟨sz.length - 1, by rw [show i + 1 + (sz.length - 1) = i + sz.length by omega, Nat.add_mod_right]; simpa using hd, by omega⟩
        have hmul : (m + 1) * sz.length = m * sz.length + sz.length := by rw [Nat.add_mul, Nat.one_mul]
        obtain ⟨L, hL⟩ := ihm d' (i + 1) (r.drop (nxt sz i r.length)) (by rw [List.length_drop]; omega) hd1 hd2 f (by omega)
        exact ⟨_, by unfold chs; rw [if_neg hr0, hL]; rfl⟩
    | succ d ihd =>
      intro i r hr hd hdk f hf
      obtain ⟨f, rfl⟩ : ∃ g, f = g + 1 := ⟨f - 1, by omega⟩
      by_cases hr0 : r = []
      · subst hr0; exact ⟨[], by simp [chs]⟩
      · obtain ⟨L, hL⟩ := ihd (i + 1) (r.drop (nxt sz i r.length)) (by rw [List.length_drop]; omega) (by rw [← hd]; congr 1; omega) (by omega) f (by omega)
        exact ⟨_, by unfold chs; rw [if_neg hr0, hL]; rfl⟩
theorem whl_pos : ∀ (sz : List Int), whl sz = false → ∃ j, j < sz.length ∧ 0 < rd sz (j : Int)
  | [], h => by simp [whl] at h
  | x :: r, h => by
    by_cases hx : x ≤ 0
    · have : whl r = false := by simpa [whl, hx] using h
      obtain ⟨j, h1, h2⟩ := whl_pos r this
      exact ⟨j + 1, by simpa using h1, by simpa [rd] using h2⟩
    · exact ⟨0, by simp, by simp [rd]; omega⟩
theorem chs_all (sz : List Int) (hs : sz.length ≤ 20) (r : List Int) (hr : r.length ≤ 600) : ∃ L, chs 13000 sz 0 r = some L := by
  cases hw : whl sz with
  | true => exact chs_whole hw 12998 0 r
  | false =>
    obtain ⟨j, hj, hp⟩ := whl_pos sz hw
    refine chs_some hw hj hp 600 j 0 r hr (by rw [Nat.zero_add, Nat.mod_eq_of_lt hj]) hj 13000 ?_
    have : 600 * sz.length ≤ 600 * 20 := Nat.mul_le_mul_left _ hs
    omega
theorem chs_flat : ∀ (f : Nat) (sz : List Int) (i : Nat) (r : List Int) (L : List (List Int)), chs f sz i r = some L → L.flatten = r
  | 0, _, _, _, _, h => by simp [chs] at h
  | f + 1, sz, i, r, L, h => by
    by_cases hr : r = []
    · subst hr; rw [chs_nil h]; rfl
    · obtain ⟨g, L', e, rfl, h'⟩ := chs_cons h hr
      obtain rfl : f = g := by omega
      rw [List.flatten_cons, chs_flat f _ _ _ _ h', List.take_append_drop]

/-- What is handed over. -/
def ChkQ (L : List (List Int)) (k : Nat) (vs : Array Value) (T : Nat → Prop) (B : Nat) (W : World) : Prop :=
  ∃ (xs : List Int) (v : Value), L[k]? = some xs ∧ vs = #[v] ∧ Kd.R (Kd.int .u8) 5 W B (fun _ => True) v xs
def IsB (Bb : Nat) (T : Nat → Prop) : Prop := T = fun x => x = Bb
theorem Stab.setT {T : Nat → Prop} {n : Nat} (W : World) {p : Addr} (hT : T p.block) (v : Value) : Stab T n W (W.setCell p v) :=
  ⟨rfl, rfl, rfl, (KeepsWalks.setCell W p v).size, fun k o hk hn _ => (Below.heap_setCell W p v k (fun e => hn (by rw [e]; exact hT))).trans hk⟩
end Go.Proofs.Ytnflobldekhjbaa
