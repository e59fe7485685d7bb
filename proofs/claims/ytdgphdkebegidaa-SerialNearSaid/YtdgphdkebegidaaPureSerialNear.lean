import Derived.Test.YtdgphdkebegidaaPx4
import Derived.Test.YtdgphdkebegidaaAri
namespace Go.Proofs.Ytdgphdkebegidaa.Pure
set_option linter.unusedVariables false
set_option linter.unusedSimpArgs false
open Go.RowKit Go.Proofs.Ytdgphdkebegidaa.P Go.Proofs.Ytdgphdkebegidaa.Ext Go.Proofs.YtdgphdkebegidaaW.PrintWords Go.Proofs.YtdgphdkebegidaaW.PrintLast Go.Proofs.YtdgphdkebegidaaW.PrintMore

theorem rd_nat' {l : List Int} {k : Nat} (h : k < l.length) : rd l (k : Int) = l[k] := by simp [rd, List.getD_eq_getElem?_getD, List.getElem?_eq_getElem h]

/-- how far a number lies behind the base -/
def off (base x : Int) : Int := (x - base) % 4294967296
def near (base x : Int) : Prop := (0 ≤ x ∧ x < 4294967296) ∧ off base x < 2147483648

theorem sd_near {base a b : Int} (ha : near base a) (hb : near base b) : sd a b > 0 ↔ off base b < off base a := by
  unfold near off at *; unfold sd; split <;> omega
theorem off_inj {base a b : Int} (ha : near base a) (hb : near base b) (h : off base a = off base b) : a = b := by
  unfold near off at *; omega

theorem takes_new {base : Int} : ∀ (l : List Int) (b : Int), near base b → (∀ y ∈ l, near base y) →
    (takes aft b l = b ∨ takes aft b l ∈ l) ∧ off base b ≤ off base (takes aft b l) ∧ ∀ y ∈ l, off base y ≤ off base (takes aft b l)
  | [], b, _, _ => ⟨Or.inl rfl, Int.le_refl _, fun y h => absurd h (by simp)⟩
  | x :: r, b, hb, hr => by
    have hx := hr x (by simp)
    have hr' : ∀ y ∈ r, near base y := fun y h => hr y (by simp [h])
    have e : takes aft b (x :: r) = takes aft (if aft x b then x else b) r := rfl
    rw [e]
    by_cases h : aft x b = true
    · rw [if_pos h]
      have h2 : off base b < off base x := (sd_near hx hb).1 (by rw [aft_eq] at h; exact of_decide_eq_true h)
      obtain ⟨p, q, s⟩ := takes_new r x hx hr'
      refine ⟨?_, by omega, ?_⟩
      · rcases p with p | p
        · exact Or.inr (by rw [p]; simp)
        · exact Or.inr (by simp [p])
      · intro y hy
        rcases List.mem_cons.1 hy with rfl | hy
        · exact q
        · exact s y hy
    · rw [if_neg h]
      have h2 : ¬ off base b < off base x := fun hh => h (by rw [aft_eq]; exact decide_eq_true ((sd_near hx hb).2 hh))
      obtain ⟨p, q, s⟩ := takes_new r b hb hr'
      refine ⟨?_, q, ?_⟩
      · rcases p with p | p
        · exact Or.inl p
        · exact Or.inr (by simp [p])
      · intro y hy
        rcases List.mem_cons.1 hy with rfl | hy
        · omega
        · exact s y hy

theorem takes_old {base : Int} : ∀ (l : List Int) (b : Int), near base b → (∀ y ∈ l, near base y) →
    (takes (fun a c => aft c a) b l = b ∨ takes (fun a c => aft c a) b l ∈ l) ∧ off base (takes (fun a c => aft c a) b l) ≤ off base b ∧ ∀ y ∈ l, off base (takes (fun a c => aft c a) b l) ≤ off base y
  | [], b, _, _ => ⟨Or.inl rfl, Int.le_refl _, fun y h => absurd h (by simp)⟩
  | x :: r, b, hb, hr => by
    have hx := hr x (by simp)
    have hr' : ∀ y ∈ r, near base y := fun y h => hr y (by simp [h])
    have e : takes (fun a c => aft c a) b (x :: r) = takes (fun a c => aft c a) (if aft b x then x else b) r := rfl
    rw [e]
    by_cases h : aft b x = true
    · rw [if_pos h]
      have h2 : off base x < off base b := (sd_near hb hx).1 (by rw [aft_eq] at h; exact of_decide_eq_true h)
      obtain ⟨p, q, s⟩ := takes_old r x hx hr'
      refine ⟨?_, by omega, ?_⟩
      · rcases p with p | p
        · exact Or.inr (by rw [p]; simp)
        · exact Or.inr (by simp [p])
      · intro y hy
        rcases List.mem_cons.1 hy with rfl | hy
        · exact q
        · exact s y hy
    · rw [if_neg h]
      have h2 : ¬ off base x < off base b := fun hh => h (by rw [aft_eq]; exact decide_eq_true ((sd_near hb hx).2 hh))
      obtain ⟨p, q, s⟩ := takes_old r b hb hr'
      refine ⟨?_, q, ?_⟩
      · rcases p with p | p
        · exact Or.inl p
        · exact Or.inr (by simp [p])
      · intro y hy
        rcases List.mem_cons.1 hy with rfl | hy
        · omega
        · exact s y hy

/-- of near numbers the newest one: ahead of no other one -/
theorem tak_new {base : Int} {l : List Int} (hl : ∀ y ∈ l, near base y) (hne : l ≠ []) :
    (tak aft l).1 ∈ l ∧ ∀ y ∈ l, off base y ≤ off base (tak aft l).1 := by
  cases l with
  | nil => exact absurd rfl hne
  | cons x r =>
    obtain ⟨p, q, s⟩ := takes_new r x (hl x (by simp)) (fun y h => hl y (by simp [h]))
    refine ⟨?_, ?_⟩
    · rcases p with p | p
      · simp [tak, p]
      · simp [tak, p]
    · intro y hy
      rcases List.mem_cons.1 hy with rfl | hy
      · exact q
      · exact s y hy
theorem tak_old {base : Int} {l : List Int} (hl : ∀ y ∈ l, near base y) (hne : l ≠ []) :
    (tak (fun a c => aft c a) l).1 ∈ l ∧ ∀ y ∈ l, off base (tak (fun a c => aft c a) l).1 ≤ off base y := by
  cases l with
  | nil => exact absurd rfl hne
  | cons x r =>
    obtain ⟨p, q, s⟩ := takes_old r x (hl x (by simp)) (fun y h => hl y (by simp [h]))
    refine ⟨?_, ?_⟩
    · rcases p with p | p
      · simp [tak, p]
      · simp [tak, p]
    · intro y hy
      rcases List.mem_cons.1 hy with rfl | hy
      · exact q
      · exact s y hy
theorem tak_snd (bt : Int → Int → Bool) (l : List Int) : (tak bt l).2 = decide ((l.length : Int) > 0) := by
  cases l <;> simp [tak]
theorem tak_new_same {base : Int} {l m : List Int} (hl : ∀ y ∈ l, near base y) (hm : ∀ y, y ∈ m ↔ y ∈ l) : (tak aft m).1 = (tak aft l).1 := by
  by_cases h : l = []
  · subst h
    have : m = [] := by cases m with | nil => rfl | cons x r => exact absurd ((hm x).1 (by simp)) (by simp)
    rw [this]
  · have h2 : m ≠ [] := by
      rintro rfl
      cases l with | nil => exact h rfl | cons x r => exact absurd ((hm x).2 (by simp)) (by simp)
    have hml : ∀ y ∈ m, near base y := fun y hy => hl y ((hm y).1 hy)
    obtain ⟨a1, a2⟩ := tak_new hl h
    obtain ⟨b1, b2⟩ := tak_new hml h2
    refine off_inj (hml _ b1) (hl _ a1) ?_
    have := a2 _ ((hm _).1 b1); have := b2 _ ((hm _).2 a1); omega
theorem tak_old_same {base : Int} {l m : List Int} (hl : ∀ y ∈ l, near base y) (hm : ∀ y, y ∈ m ↔ y ∈ l) : (tak (fun a c => aft c a) m).1 = (tak (fun a c => aft c a) l).1 := by
  by_cases h : l = []
  · subst h
    have : m = [] := by cases m with | nil => rfl | cons x r => exact absurd ((hm x).1 (by simp)) (by simp)
    rw [this]
  · have h2 : m ≠ [] := by
      rintro rfl
      cases l with | nil => exact h rfl | cons x r => exact absurd ((hm x).2 (by simp)) (by simp)
    have hml : ∀ y ∈ m, near base y := fun y hy => hl y ((hm y).1 hy)
    obtain ⟨a1, a2⟩ := tak_old hl h
    obtain ⟨b1, b2⟩ := tak_old hml h2
    refine off_inj (hml _ b1) (hl _ a1) ?_
    have := a2 _ ((hm _).1 b1); have := b2 _ ((hm _).2 a1); omega

theorem loop2 {base : Int} {l : List Int} (hl : ∀ y ∈ l, near base y) (hlen : l.length ≤ 60) (a b : Int) (ha : ∀ y ∈ l, near base a ∧ off base y ≤ off base a) (hb : ∀ y ∈ l, near base b ∧ off base b ≤ off base y) :
    ∀ (n i k : Nat), i + n = l.length → n < k → cuneiformlaw10_SerialNear.l2 k l a b i = some true
  | 0, i, k, hi, hk => by
    obtain ⟨k, rfl⟩ : ∃ j, k = j + 1 := ⟨k - 1, by omega⟩
    have hn : ¬ ((i : Int) < (l.length : Int)) := by omega
    simp only [cuneiformlaw10_SerialNear.l2, if_neg hn, known_true, Option.bind_some]
  | n + 1, i, k, hi, hk => by
    obtain ⟨k, rfl⟩ : ∃ j, k = j + 1 := ⟨k - 1, by omega⟩
    have hn : (i : Int) < (l.length : Int) := by omega
    have hg : i < l.length := by omega
    have e : wrap64 ((i : Int) + 1) = ((i + 1 : Nat) : Int) := by unfold wrap64; omega
    have h0 : (0 : Int) ≤ (i : Int) := by omega
    have hm := List.getElem_mem hg
    have hx := hl _ hm
    obtain ⟨na, oa⟩ := ha _ hm
    obtain ⟨nb, ob⟩ := hb _ hm
    have h1 : ¬ l[i] = a → sd a l[i] > 0 := fun h => (sd_near na hx).2 (by
      rcases Int.lt_or_eq_of_le oa with h2 | h2
      · exact h2
      · exact absurd (off_inj hx na h2) h)
    have h2 : ¬ l[i] = b → sd l[i] b > 0 := fun h => (sd_near hx nb).2 (by
      rcases Int.lt_or_eq_of_le ob with h2 | h2
      · exact h2
      · exact absurd (off_inj nb hx h2).symm h)
    simp only [cuneiformlaw10_SerialNear.l2, if_pos hn, if_pos h0, rd_nat' hg, After_eq, Option.bind_some, e, loop2 hl hlen a b ha hb n (i + 1) k (by omega) (by omega)]
    by_cases e1 : l[i] = a <;> by_cases e2 : l[i] = b <;> simp_all

theorem loop1 {base : Int} {l : List Int} (hl : ∀ y ∈ l, near base y) (hlen : l.length ≤ 60) :
    ∀ (n : Nat) (x6 : List Int) (k : Nat), n ≤ l.length → (∀ y ∈ x6, y ∈ l) → (∀ (j : Nat) (h : j < l.length), n ≤ j → l[j] ∈ x6) → x6.length + n = l.length → n + 70 < k →
      cuneiformlaw10_SerialNear.l1 k l x6 ((n : Int) - 1) = some true
  | 0, x6, k, hi, h1, h2, h3, hk => by
    obtain ⟨k, rfl⟩ : ∃ j, k = j + 1 := ⟨k - 1, by omega⟩
    have hn : ¬ ((((0 : Nat) : Int) - 1) ≥ 0) := by omega
    have hm : ∀ y, y ∈ x6 ↔ y ∈ l := fun y => ⟨h1 y, fun hy => by
      obtain ⟨j, hj, rfl⟩ := List.getElem_of_mem hy
      exact h2 j hj (by omega)⟩
    have hN : serial_Newest.f l = some (tak aft l) := by unfold serial_Newest.f; rw [if_pos (by omega)]
    have hO : serial_Oldest.f l = some (tak (fun a c => aft c a) l) := by unfold serial_Oldest.f; rw [if_pos (by omega)]
    have hN' : serial_Newest.f x6 = some (tak aft x6) := by unfold serial_Newest.f; rw [if_pos (by omega)]
    have hO' : serial_Oldest.f x6 = some (tak (fun a c => aft c a) x6) := by unfold serial_Oldest.f; rw [if_pos (by omega)]
    simp only [cuneiformlaw10_SerialNear.l1, if_neg hn, hN, hO, hN', hO', Option.bind_some, tak_snd, bne_self_eq_false, Bool.false_eq_true, if_false, tak_new_same hl hm, tak_old_same hl hm, if_true]
    obtain ⟨k, rfl⟩ : ∃ j, k = j + 1 := ⟨k - 1, by omega⟩
    simp only [cuneiformlaw10_SerialNear.j3, Bool.false_eq_true, if_false]
    refine loop2 hl hlen _ _ ?_ ?_ l.length 0 k (by omega) (by omega)
    · intro y hy
      have hne : l ≠ [] := by rintro rfl; exact absurd hy (by simp)
      obtain ⟨p, q⟩ := tak_new hl hne
      exact ⟨hl _ p, q y hy⟩
    · intro y hy
      have hne : l ≠ [] := by rintro rfl; exact absurd hy (by simp)
      obtain ⟨p, q⟩ := tak_old hl hne
      exact ⟨hl _ p, q y hy⟩
  | n + 1, x6, k, hi, h1, h2, h3, hk => by
    obtain ⟨k, rfl⟩ : ∃ j, k = j + 1 := ⟨k - 1, by omega⟩
    have e0 : (((n + 1 : Nat) : Int) - 1) = (n : Int) := by omega
    have hg : n < l.length := by omega
    have hp : (n : Int) ≥ 0 := by omega
    have hp' : (0 : Int) ≤ (n : Int) := by omega
    have hq : (n : Int) < (l.length : Int) := by omega
    have hr : x6.length < 35184372088832 := by omega
    have e : wrap64 ((n : Int) - 1) = (n : Int) - 1 := by unfold wrap64; omega
    rw [e0]
    simp only [cuneiformlaw10_SerialNear.l1, if_pos hp, if_pos hq, if_pos hr, rd_nat' hg, e]
    refine loop1 hl hlen n (x6 ++ [l[n]]) k (by omega) ?_ ?_ (by simp; omega) (by omega)
    · intro y hy
      rcases List.mem_append.1 hy with hy | hy
      · exact h1 y hy
      · rw [List.mem_singleton.1 hy]; exact List.getElem_mem hg
    · intro j hj hnj
      rcases Nat.eq_or_lt_of_le hnj with rfl | hlt
      · simp
      · exact List.mem_append.2 (Or.inl (h2 j hj (by omega)))

theorem start1 {base : Int} {l : List Int} (hl : ∀ y ∈ l, near base y) (hlen : l.length ≤ 60) (k : Nat) (hk : 140 < k) : cuneiformlaw10_SerialNear.j1 k l [] = some true := by
  obtain ⟨k, rfl⟩ : ∃ j, k = j + 1 := ⟨k - 1, by omega⟩
  have e : wrap64 ((l.length : Int) - 1) = (l.length : Int) - 1 := by unfold wrap64; omega
  simp only [cuneiformlaw10_SerialNear.j1, e]
  exact loop1 hl hlen l.length [] k (Nat.le_refl _) (fun y h => absurd h (by simp)) (fun j h h2 => by omega) (by simp) (by omega)

theorem loop0 {base : Int} (l : List Int) (hl : ∀ x ∈ l, 0 ≤ x ∧ x < 4294967296) : ∀ (n i : Nat) (x5 : List Int) (k : Nat), i + n = 60 → x5.length = i → (∀ y ∈ x5, near base y) → 150 + n < k →
    cuneiformlaw10_SerialNear.l0 k base l x5 i = some true
  | 0, i, x5, k, hi, h5, hn, hk => by
    obtain ⟨k, rfl⟩ : ∃ j, k = j + 1 := ⟨k - 1, by omega⟩
    have h6 : ¬ ((i : Int) < 60) := by omega
    simp only [cuneiformlaw10_SerialNear.l0, if_neg h6, start1 hn (by omega) k (by omega), ite_self]
  | n + 1, i, x5, k, hi, h5, hn, hk => by
    obtain ⟨k, rfl⟩ : ∃ j, k = j + 1 := ⟨k - 1, by omega⟩
    have h6 : ((i : Int) < 60) := by omega
    have h0 : (0 : Int) ≤ (i : Int) := by omega
    have hr : x5.length < 35184372088832 := by omega
    have e : wrap64 ((i : Int) + 1) = ((i + 1 : Nat) : Int) := by unfold wrap64; omega
    by_cases h : (i : Int) < (l.length : Int)
    · have hg : i < l.length := by omega
      have hx := hl _ (List.getElem_mem hg)
      simp only [cuneiformlaw10_SerialNear.l0, if_pos h, if_pos h6, if_pos h0, if_pos hr, rd_nat' hg, e]
      refine loop0 l hl n (i + 1) _ k (by omega) (by simp; omega) ?_ (by omega)
      intro y hy
      rcases List.mem_append.1 hy with hy | hy
      · exact hn y hy
      · rw [List.mem_singleton.1 hy, Int.tmod_eq_emod_of_nonneg hx.1]
        unfold near off; omega
    · simp only [cuneiformlaw10_SerialNear.l0, if_neg h, start1 hn (by omega) k (by omega)]

theorem SerialNear : cuneiformlaw10_SerialNear.Pure := by
  intro a l ha _ _ hl
  exact ⟨211, loop0 (base := a) l (fun x hx => u32_of (hl x hx)) 60 0 [] 211 rfl rfl (fun y h => absurd h (by simp)) (by omega)⟩

end Go.Proofs.Ytdgphdkebegidaa.Pure
