/- Plain laws of what is stuffed: blocks, how long they are, what they are decoded to. -/
import Derived.Test.YtmpampbpkcfdoaaExt
set_option linter.unusedVariables false
set_option linter.unusedSimpArgs false
namespace Go.Proofs.Ytmpampbpkcfdoaa
open Go.RowKit

theorem lead_all : ∀ (p r : List Int), 0 ∉ p → lead (p ++ r) = p.length + lead r
  | [], r, _ => by simp
  | c :: p, r, h => by
    have hc : c ≠ 0 := fun e => h (by simp [e])
    have := lead_all p r (fun m => h (by simp [m]))
    simp [lead, hc, this]; omega
theorem lead_no : ∀ (l : List Int), lead l = l.length → 0 ∉ l
  | [], _ => by simp
  | c :: r, h => by
    unfold lead at h
    split at h
    · simp at h
    · rename_i hc
      have := lead_no r (by simpa using h)
      intro m
      rcases List.mem_cons.1 m with e | e
      · exact hc e.symm
      · exact this e
theorem lead_take : ∀ (l : List Int) (n : Nat), n ≤ lead l → 0 ∉ l.take n
  | _, 0, _ => by simp
  | [], n + 1, h => by simp
  | c :: r, n + 1, h => by
    unfold lead at h
    split at h
    · omega
    · rename_i hc
      have := lead_take r n (by omega)
      intro m
      rw [List.take_succ_cons] at m
      rcases List.mem_cons.1 m with e | e
      · exact hc e.symm
      · exact this e
theorem lead_zero : ∀ (l : List Int), lead l < l.length → l = l.take (lead l) ++ 0 :: l.drop (lead l + 1)
  | [], h => by simp at h
  | c :: r, h => by
    unfold lead at h ⊢
    split
    · rename_i hc; simp [hc]
    · rename_i hc
      rw [if_neg hc] at h
      have := lead_zero r (by simpa using h)
      rw [List.take_succ_cons, List.drop_succ_cons, List.cons_append, ← this]

theorem blks_zero (p r : List Int) (h0 : 0 ∉ p) (hp : p.length < 254) : blks (p ++ 0 :: r) = p :: blks r := by
  have hl : lead (p ++ 0 :: r) = p.length := by rw [lead_all p _ h0]; simp [lead]
  have hb : blk (p ++ 0 :: r) = (p.length, p.length + 1, true) := by
    unfold blk; rw [hl, if_pos ⟨hp, by simp⟩]
  rw [blks_at, hb]
  simp [show (p ++ 0 :: r).drop (p.length + 1) = r by rw [← List.drop_drop]; simp]
theorem blks_full (p r : List Int) (h0 : 0 ∉ p) (hp : p.length = 254) (hr : r ≠ []) : blks (p ++ r) = p :: blks r := by
  have hl : lead (p ++ r) = p.length + lead r := lead_all p _ h0
  have hrl : 0 < r.length := List.length_pos_iff.2 hr
  have hb : blk (p ++ r) = (254, 254, true) := by
    unfold blk; rw [hl, if_neg (by omega), if_pos (by simp; omega)]
    simp; omega
  rw [blks_at, hb]
  simp [show (p ++ r).take 254 = p by rw [← hp]; simp, show (p ++ r).drop 254 = r by rw [← hp]; simp]
theorem blks_last (l : List Int) (h0 : 0 ∉ l) (hl : l.length ≤ 254) : blks l = [l] := by
  have h1 : lead l = l.length := by have := lead_all l [] h0; simpa [lead] using this
  have hb : blk l = (l.length, l.length, false) := by
    unfold blk; rw [h1, if_neg (by omega)]
    split
    · have : l.length = 254 := by omega
      simp [this]
    · rfl
  rw [blks_at, hb]
  simp
theorem blks_cases (l : List Int) : (∃ p r, l = p ++ 0 :: r ∧ 0 ∉ p ∧ p.length < 254 ∧ blks l = p :: blks r) ∨ (∃ p r, l = p ++ r ∧ 0 ∉ p ∧ p.length = 254 ∧ r ≠ [] ∧ blks l = p :: blks r) ∨ (0 ∉ l ∧ l.length ≤ 254 ∧ blks l = [l]) := by
  have hle := lead_le l
  by_cases h1 : lead l < 254
  · by_cases h2 : lead l < l.length
    · have e := lead_zero l h2
      have n0 := lead_take l (lead l) (Nat.le_refl _)
      have np : (l.take (lead l)).length < 254 := by rw [List.length_take]; omega
      exact .inl ⟨_, _, e, n0, np, by
        have := blks_zero (l.take (lead l)) (l.drop (lead l + 1)) n0 np
        rw [← e] at this; exact this⟩
    · have h3 : lead l = l.length := by omega
      have := lead_no l h3
      exact .inr (.inr ⟨this, by omega, blks_last l this (by omega)⟩)
  · by_cases h2 : l.length = 254
    · have := lead_no l (by omega)
      exact .inr (.inr ⟨this, by omega, blks_last l this (by omega)⟩)
    · have n0 := lead_take l 254 (by omega)
      have np : (l.take 254).length = 254 := by rw [List.length_take]; omega
      have nr : l.drop 254 ≠ [] := by
        intro e; have := congrArg List.length e; rw [List.length_drop] at this; simp at this; omega
      have := blks_full (l.take 254) (l.drop 254) n0 np nr
      rw [List.take_append_drop] at this
      exact .inr (.inl ⟨_, _, (List.take_append_drop 254 l).symm, n0, np, nr, this⟩)
/-- Induction over blocks. -/
theorem blks_ind {P : List Int → Prop} (hz : ∀ p r, 0 ∉ p → p.length < 254 → blks (p ++ 0 :: r) = p :: blks r → P r → P (p ++ 0 :: r)) (hf : ∀ p r, 0 ∉ p → p.length = 254 → r ≠ [] → blks (p ++ r) = p :: blks r → P r → P (p ++ r)) (hl : ∀ l, 0 ∉ l → l.length ≤ 254 → blks l = [l] → P l) (l : List Int) : P l := by
  have : ∀ (n : Nat) (l : List Int), l.length ≤ n → P l := by
    intro n
    induction n with
    | zero =>
      intro l h
      have : l = [] := List.length_eq_zero_iff.1 (by omega)
      subst this
      exact hl [] (by simp) (by simp) (blks_last [] (by simp) (by simp))
    | succ n ih =>
      intro l h
      rcases blks_cases l with ⟨p, r, rfl, h0, hp, hb⟩ | ⟨p, r, rfl, h0, hp, hr, hb⟩ | ⟨h0, hp, hb⟩
      · exact hz p r h0 hp hb (ih r (by simp at h; omega))
      · exact hf p r h0 hp hr hb (ih r (by simp at h; omega))
      · exact hl l h0 hp hb
  exact this l.length l (Nat.le_refl _)

theorem szs_ge (l : List Int) : l.length + 1 ≤ szs (blks l) := by
  refine blks_ind (P := fun l => l.length + 1 ≤ szs (blks l)) ?_ ?_ ?_ l
  · intro p r h0 hp hb ih; rw [hb]; simp [szs]; omega
  · intro p r h0 hp hr hb ih; rw [hb]; simp [szs]; omega
  · intro l h0 hp hb; rw [hb]; simp [szs]
theorem szs_most (l : List Int) : szs (blks l) ≤ l.length + max 1 ((l.length + 253) / 254) := by
  refine blks_ind (P := fun l => szs (blks l) ≤ l.length + max 1 ((l.length + 253) / 254)) ?_ ?_ ?_ l
  · intro p r h0 hp hb ih; rw [hb]; simp [szs]; omega
  · intro p r h0 hp hr hb ih; have := List.length_pos_iff.2 hr; rw [hb]; simp [szs]; omega
  · intro l h0 hp hb; rw [hb]; simp [szs]; omega
theorem szs_whole (l : List Int) : 0 ∉ l → szs (blks l) = l.length + max 1 ((l.length + 253) / 254) := by
  refine blks_ind (P := fun l => 0 ∉ l → szs (blks l) = l.length + max 1 ((l.length + 253) / 254)) ?_ ?_ ?_ l
  · intro p r h0 hp hb ih h; exact absurd (by simp) h
  · intro p r h0 hp hr hb ih h; have := List.length_pos_iff.2 hr; have := ih (fun m => h (by simp [m])); rw [hb]; simp [szs]; omega
  · intro l h0 hp hb h; rw [hb]; simp [szs]; omega

theorem enc_pos (l : List Int) : 0 < (enc (blks l)).length := by rw [enc_len]; have := szs_ge l; omega
theorem enc_no0 (l : List Int) : 0 ∉ enc (blks l) := by
  refine blks_ind (P := fun l => 0 ∉ enc (blks l)) ?_ ?_ ?_ l
  · intro p r h0 hp hb ih m; rw [hb] at m; simp only [enc, List.cons_append, List.mem_cons, List.mem_append] at m
    rcases m with m | m | m
    · omega
    · exact h0 m
    · exact ih m
  · intro p r h0 hp hr hb ih m; rw [hb] at m; simp only [enc, List.cons_append, List.mem_cons, List.mem_append] at m
    rcases m with m | m | m
    · omega
    · exact h0 m
    · exact ih m
  · intro l h0 hp hb m; rw [hb] at m; simp only [enc, List.append_nil, List.mem_cons] at m
    rcases m with m | m
    · omega
    · exact h0 m
theorem inByte_iff (l : List Int) : inByte l = true ↔ ∀ x ∈ l, 0 ≤ x ∧ x < 256 := by simp [inByte]
theorem enc_byte (l : List Int) : inByte l = true → inByte (enc (blks l)) = true := by
  refine blks_ind (P := fun l => inByte l = true → inByte (enc (blks l)) = true) ?_ ?_ ?_ l
  · intro p r h0 hp hb ih h
    rw [inByte_iff] at *
    intro x m; rw [hb] at m; simp only [enc, List.cons_append, List.mem_cons, List.mem_append] at m
    rcases m with m | m | m
    · omega
    · exact h x (by simp [m])
    · have := ih (fun y hy => h y (by simp [hy])); rw [inByte_iff] at this; exact this x m
  · intro p r h0 hp hr hb ih h
    rw [inByte_iff] at *
    intro x m; rw [hb] at m; simp only [enc, List.cons_append, List.mem_cons, List.mem_append] at m
    rcases m with m | m | m
    · omega
    · exact h x (by simp [m])
    · have := ih (fun y hy => h y (by simp [hy])); rw [inByte_iff] at this; exact this x m
  · intro l h0 hp hb h
    rw [inByte_iff] at *
    intro x m; rw [hb] at m; simp only [enc, List.append_nil, List.mem_cons] at m
    rcases m with m | m
    · omega
    · exact h x m

theorem dec_enc (l : List Int) : ∀ (f : Nat) (full : Bool) (out : List Int), (enc (blks l)).length < f → ¬ (full = true ∧ l = []) → dec f (enc (blks l)) full out = some (out ++ l) := by
  refine blks_ind (P := fun l => ∀ (f : Nat) (full : Bool) (out : List Int), (enc (blks l)).length < f → ¬ (full = true ∧ l = []) → dec f (enc (blks l)) full out = some (out ++ l)) ?_ ?_ ?_ l
  · intro p r h0 hp hb ih f full out hf hn
    obtain ⟨f, rfl⟩ : ∃ g, f = g + 1 := ⟨f - 1, by omega⟩
    rw [hb] at hf ⊢
    have hpos := enc_pos r
    simp only [enc, List.cons_append, List.length_cons, List.length_append] at hf ⊢
    unfold dec
    have e1 : (((p.length + 1 : Nat) : Int) - 1).toNat = p.length := by omega
    rw [e1, if_neg (by simp only [List.length_append]; omega), List.take_left, if_neg h0, if_neg (by simp only [List.length_append]; omega), if_neg (by omega), List.drop_left]
    rw [ih f false _ (by omega) (by simp)]
    simp
  · intro p r h0 hp hr hb ih f full out hf hn
    obtain ⟨f, rfl⟩ : ∃ g, f = g + 1 := ⟨f - 1, by omega⟩
    rw [hb] at hf ⊢
    have hpos := enc_pos r
    simp only [enc, List.cons_append, List.length_cons, List.length_append] at hf ⊢
    unfold dec
    have e1 : (((p.length + 1 : Nat) : Int) - 1).toNat = p.length := by omega
    have e2 : ∀ z : List Int, (p ++ z).take 254 = p := fun z => by rw [← hp]; simp
    have e3 : ∀ z : List Int, (p ++ z).drop 254 = z := fun z => by rw [← hp]; simp
    rw [e1, if_neg (by simp only [List.length_append]; omega), List.take_left, if_neg h0, if_neg (by simp only [List.length_append]; omega), if_pos (by omega), e2, e3]
    rw [ih f true _ (by omega) (fun h => hr h.2)]
    simp
  · intro l h0 hp hb f full out hf hn
    obtain ⟨f, rfl⟩ : ∃ g, f = g + 1 := ⟨f - 1, by omega⟩
    rw [hb] at hf ⊢
    simp only [enc, List.append_nil] at hf ⊢
    unfold dec
    have e1 : (((l.length + 1 : Nat) : Int) - 1).toNat = l.length := by omega
    rw [e1, if_neg (by omega), List.take_length, if_neg h0, if_pos rfl, if_neg]
    rintro ⟨h1, h2⟩
    exact hn ⟨h1, List.length_eq_zero_iff.1 (by omega)⟩
theorem dec_back : ∀ (f : Nat) (l : List Int) (full : Bool) (out o : List Int), inByte l = true → dec f l full out = some o → ∃ b, o = out ++ b ∧ enc (blks b) = l ∧ (full = true → b ≠ [])
  | 0, _, _, _, _, _, h => by simp [dec] at h
  | _ + 1, [], _, _, _, _, h => by simp [dec] at h
  | f + 1, x :: r, full, out, o, hi, h => by
    rw [inByte_iff] at hi
    have hx := hi x (by simp)
    have hir : ∀ n, inByte (r.drop n) = true := fun n => by rw [inByte_iff]; exact fun y hy => hi y (by simp [List.mem_of_mem_drop hy])
    unfold dec at h
    split at h
    · cases h
    rename_i hbad
    split at h
    · cases h
    rename_i hz
    obtain ⟨n, hn⟩ : ∃ n : Nat, x - 1 = (n : Int) := ⟨(x - 1).toNat, by omega⟩
    obtain rfl : x = (n : Int) + 1 := by omega
    rw [show ((n : Int) + 1 - 1).toNat = n by omega] at h hz
    split at h
    · rename_i hrn
      split at h
      · cases h
      rename_i hff
      cases h
      have e : r.take n = r := List.take_of_length_le (by omega)
      rw [e] at hz
      refine ⟨r, rfl, ?_, ?_⟩
      · rw [blks_last r hz (by omega)]; simp [enc]; omega
      · intro hfu e2; subst e2; exact hff ⟨hfu, by simp at hrn; omega⟩
    · rename_i hrn
      have hlt : n < r.length := by omega
      have hln : (r.take n).length = n := by rw [List.length_take]; omega
      split at h
      · rename_i h255
        have hn : n = 254 := by omega
        subst hn
        obtain ⟨b, rfl, he, hb⟩ := dec_back f _ true _ o (hir 254) h
        refine ⟨r.take 254 ++ b, by simp, ?_, ?_⟩
        · rw [blks_full _ _ hz hln (hb rfl)]; simp only [enc, hln, he, List.cons_append, List.take_append_drop]; simp
        · intro _ e; have := congrArg List.length e; rw [List.length_append, hln] at this; simp at this
      · rename_i h255
        obtain ⟨b, rfl, he, hb⟩ := dec_back f _ false _ o (hir n) h
        refine ⟨r.take n ++ 0 :: b, by simp, ?_, ?_⟩
        · rw [blks_zero _ _ hz (by omega)]; simp only [enc, hln, he, List.cons_append, List.take_append_drop]; simp
        · intro _ e; simp at e

theorem decoded_enc (b : List Int) : decoded (enc (blks b)) = (b, 0) := by
  unfold decoded; rw [dec_enc b _ _ _ (by omega) (by simp)]; rfl
theorem decoded_ok (l : List Int) (hi : inByte l = true) : (decoded l = ([], 12) ∧ ∀ b, enc (blks b) ≠ l) ∨ ∃ b, decoded l = (b, 0) ∧ enc (blks b) = l := by
  unfold decoded
  cases h : dec (l.length + 1) l false [] with
  | none =>
    refine .inl ⟨rfl, fun b hb => ?_⟩
    subst hb
    rw [dec_enc b _ _ _ (by omega) (by simp)] at h
    cases h
  | some o =>
    obtain ⟨b, e, he, _⟩ := dec_back _ _ _ _ _ hi h
    exact .inr ⟨b, by rw [e]; rfl, he⟩
theorem enc_inj {a b : List Int} (h : enc (blks a) = enc (blks b)) : a = b := by
  have h1 := decoded_enc a
  rw [h, decoded_enc b] at h1
  exact (congrArg (·.1) h1).symm
end Go.Proofs.Ytmpampbpkcfdoaa
