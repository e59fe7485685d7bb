/- scan: the document's segments are those that are found. -/
import Derived.Test.YtmkhhnhoodneeaaLiv
set_option linter.unusedVariables false
set_option linter.unusedSimpArgs false
namespace Go.Proofs.Ytmkhhnhoodneeaa
open Go.RowKit Go.Proofs.YtmkhhnhoodneeaaW.PrintWords Go.Proofs.YtmkhhnhoodneeaaW.PrintMore

theorem rd_nat {l : List Int} {k : Nat} (h : k < l.length) : rd l (k : Int) = l[k] := by simp [rd, List.getD_eq_getElem?_getD, List.getElem?_eq_getElem h]
/-- The segments, whole, and where they are. -/
def spl : List Int → Nat → List Int → List (List Int × Int)
  | _, _, [] => []
  | now, i, c :: l => if c = 0 then (if now = [] then spl [] (i + 1) l else (now, ((i - now.length : Nat) : Int)) :: spl [] (i + 1) l) else spl (now ++ [c]) (i + 1) l
/-- What is open. -/
def opn : List Int → List Int → List Int
  | now, [] => now
  | now, c :: l => if c = 0 then opn [] l else opn (now ++ [c]) l
theorem opn_len : ∀ (l now : List Int), (opn now l).length ≤ now.length + l.length
  | [], now => by simp [opn]
  | c :: l, now => by
    simp only [opn, List.length_cons]
    split
    · have := opn_len l []; simp at this; omega
    · have := opn_len l (now ++ [c]); simp at this; omega
theorem spl_len : ∀ (l now : List Int) (i : Nat), (spl now i l).length ≤ l.length
  | [], now, i => by simp [spl]
  | c :: l, now, i => by
    simp only [spl, List.length_cons]
    split
    · split
      · have := spl_len l [] (i + 1); omega
      · simp only [List.length_cons]; have := spl_len l [] (i + 1); omega
    · have := spl_len l (now ++ [c]) (i + 1); omega
theorem spl_at : ∀ (l now : List Int) (i : Nat) (x : List Int × Int), x ∈ spl now i l → now.length ≤ i → 0 ≤ x.2 ∧ x.2 ≤ ((i + l.length : Nat) : Int) ∧ x.1.length ≤ i + l.length
  | [], now, i, x, h, _ => by simp [spl] at h
  | c :: l, now, i, x, h, hn => by
    simp only [spl] at h
    simp only [List.length_cons]
    split at h
    · split at h
      · have := spl_at l [] (i + 1) x h (by simp); omega
      · rcases List.mem_cons.1 h with rfl | h
        · refine ⟨by simp, by simp only []; omega, by simp only []; omega⟩
        · have := spl_at l [] (i + 1) x h (by simp); omega
    · have := spl_at l (now ++ [c]) (i + 1) x h (by simp; omega); omega
theorem split_l0 (x0 : List Int) (hl : x0.length ≤ 100000) : ∀ (d i k : Nat) (x5 : List (List Int)) (x6 now : List Int), i + d = x0.length → d < k → now.length ≤ i → x5.length ≤ i → x6.length ≤ i →
    P.cuneiformref06_Split.l0 k x0 x5 x6 now (i : Int) = some (x5 ++ (spl now i (x0.drop i)).map Prod.fst, x6 ++ (spl now i (x0.drop i)).map Prod.snd, opn now (x0.drop i)) := by
  intro d
  induction d with
  | zero =>
    intro i k x5 x6 now hi hk hn h5 h6
    obtain ⟨k, rfl⟩ : ∃ m, k = m + 1 := ⟨k - 1, by omega⟩
    simp only [P.cuneiformref06_Split.l0]
    rw [if_neg (by omega), List.drop_eq_nil_of_le (by omega)]
    simp [spl, opn]
  | succ d ih =>
    intro i k x5 x6 now hi hk hn h5 h6
    obtain ⟨k, rfl⟩ : ∃ m, k = m + 1 := ⟨k - 1, by omega⟩
    have hlt : i < x0.length := by omega
    have hw : wrap64 ((i : Int) + 1) = ((i + 1 : Nat) : Int) := by unfold wrap64; omega
    simp only [P.cuneiformref06_Split.l0]
    rw [if_pos (by omega), if_pos (by omega), rd_nat hlt, List.drop_eq_getElem_cons hlt, hw]
    simp only [spl, opn]
    by_cases hc : x0[i] = 0
    · rw [if_pos hc, if_pos hc, if_pos hc]
      by_cases h0 : now = []
      · subst h0
        rw [if_neg (by simp), if_pos rfl, ih (i + 1) k x5 x6 [] (by omega) (by omega) (by simp) (by omega) (by omega)]
      · have hpos : 0 < now.length := List.length_pos_iff.2 h0
        have hw2 : wrap64 ((i : Int) - (now.length : Int)) = ((i - now.length : Nat) : Int) := by unfold wrap64; omega
        rw [if_pos (by omega), if_pos (by omega), if_pos (by omega), if_neg h0, hw2, ih (i + 1) k (x5 ++ [now]) (x6 ++ [((i - now.length : Nat) : Int)]) [] (by omega) (by omega) (by simp) (by simp; omega) (by simp; omega)]
        simp
    · rw [if_neg hc, if_neg hc, if_neg hc, if_pos (by omega), ih (i + 1) k x5 x6 (now ++ [x0[i]]) (by omega) (by omega) (by simp; omega) (by omega) (by omega)]
theorem split_f (l : List Int) (hl : l.length ≤ 100000) (k : Nat) (hk : l.length < k) : P.cuneiformref06_Split.f k l = some ((spl [] 0 l).map Prod.fst, (spl [] 0 l).map Prod.snd, opn [] l) := by
  have := split_l0 l hl l.length 0 k [] [] [] (by omega) hk (by simp) (by simp) (by simp)
  simpa [P.cuneiformref06_Split.f] using this
/-- Too many are none. -/
def crop (now : List Int) : List Int := if 255 < now.length then [] else now
theorem tk_crop (now : List Int) (c : Int) : tk (crop now) now.length c = crop (now ++ [c]) := by
  unfold tk crop
  rw [List.length_append, List.length_singleton]
  by_cases h : 255 < now.length + 1
  · rw [if_pos h, if_pos h]
  · rw [if_neg h, if_neg h, if_neg (by omega)]
def seg39 (x : List Int × Int) : P.S39 := ⟨crop x.1, decide (255 < x.1.length), (x.1.length : Int), x.2⟩
def seg61 (x : List Int × Int) : P.S61 := ⟨crop x.1, decide (255 < x.1.length), (x.1.length : Int), x.2⟩
theorem crop_nil : crop [] = [] := rfl
theorem sgs_spl : ∀ (l now : List Int) (i : Nat), now.length ≤ i → sgs (crop now) now.length i l = (spl now i l).map seg39
  | [], now, i, h => by simp [sgs, spl]
  | c :: l, now, i, h => by
    simp only [sgs, spl]
    have h0 := sgs_spl l [] (i + 1) (by simp)
    rw [crop_nil, List.length_nil] at h0
    by_cases hc : c = 0
    · rw [if_pos hc, if_pos hc]
      by_cases hn : now = []
      · subst hn
        rw [if_pos rfl, if_pos List.length_nil, h0]
      · rw [if_neg hn, if_neg (by have := List.length_pos_iff.2 hn; omega), h0]
        rfl
    · rw [if_neg hc, if_neg hc, tk_crop, show now.length + 1 = (now ++ [c]).length by simp, sgs_spl l (now ++ [c]) (i + 1) (by simp; omega)]
theorem hld_opn : ∀ (l now : List Int), hld (crop now) now.length l = (crop (opn now l), (opn now l).length)
  | [], now => by simp [hld, opn]
  | c :: l, now => by
    simp only [hld, opn]
    have h0 := hld_opn l []
    rw [crop_nil, List.length_nil] at h0
    by_cases hc : c = 0
    · rw [if_pos hc, if_pos hc, h0]
    · rw [if_neg hc, if_neg hc, tk_crop, show now.length + 1 = (now ++ [c]).length by simp, hld_opn l (now ++ [c])]
theorem all_l0 (L : List (List Int × Int)) (open_ : List Int) (hL : L.length ≤ 100000) (hx : ∀ x ∈ L, 0 ≤ x.2 ∧ x.2 ≤ 100000) : ∀ (d i k : Nat) (out : List P.S61), i + d = L.length → d < k → out.length ≤ i →
    P.cuneiformref09_All.l0 k (L.map Prod.fst) (L.map Prod.snd) open_ out (i : Int) = some (out ++ (L.drop i).map seg61, open_) := by
  intro d
  induction d with
  | zero =>
    intro i k out hi hk ho
    obtain ⟨k, rfl⟩ : ∃ m, k = m + 1 := ⟨k - 1, by omega⟩
    simp only [P.cuneiformref09_All.l0, List.length_map]
    rw [if_neg (by omega), List.drop_eq_nil_of_le (by omega)]
    simp
  | succ d ih =>
    intro i k out hi hk ho
    obtain ⟨k, rfl⟩ : ∃ m, k = m + 1 := ⟨k - 1, by omega⟩
    have hlt : i < L.length := by omega
    have hw : wrap64 ((i : Int) + 1) = ((i + 1 : Nat) : Int) := by unfold wrap64; omega
    have h1 : P.rd_L1 (L.map Prod.fst) (i : Int) = L[i].1 := by
      simp [P.rd_L1, List.getD_eq_getElem?_getD, List.getElem?_eq_getElem hlt]
    have h2 : rd (L.map Prod.snd) (i : Int) = L[i].2 := by rw [rd_nat (by simpa using hlt)]; simp
    have hb := hx L[i] (List.getElem_mem hlt)
    have hu : IntKind.u64.wrap L[i].2 = L[i].2 := u64_id hb.1 (by omega)
    simp only [P.cuneiformref09_All.l0, List.length_map]
    rw [if_pos (by omega), if_pos (by omega), if_pos (by omega), h1, h2, hu, hw, List.drop_eq_getElem_cons hlt, List.map_cons]
    by_cases hc : 255 < L[i].1.length
    · rw [if_pos (by omega), if_pos (by omega), ih (i + 1) k _ (by omega) (by omega) (by simp; omega)]
      have : (⟨[], true, (L[i].1.length : Int), L[i].2⟩ : P.S61) = seg61 L[i] := by simp [seg61, crop, hc]
      rw [this]; simp
    · rw [if_neg (by omega), if_pos (by omega), ih (i + 1) k _ (by omega) (by omega) (by simp; omega)]
      have : (⟨L[i].1, false, (L[i].1.length : Int), L[i].2⟩ : P.S61) = seg61 L[i] := by simp [seg61, crop, hc]
      rw [this]; simp
theorem all_f (l : List Int) (hl : l.length ≤ 100000) (k : Nat) (hk : l.length < k) : P.cuneiformref09_All.f k l = some ((spl [] 0 l).map seg61, opn [] l) := by
  simp only [P.cuneiformref09_All.f]
  rw [split_f l hl k hk]
  simp only [Option.bind_some]
  have h1 := spl_len l [] 0
  have := all_l0 (spl [] 0 l) (opn [] l) (by omega) (fun x hx => by have := spl_at l [] 0 x hx (by simp); omega) (spl [] 0 l).length 0 k [] (by omega) (by omega) (by simp)
  simpa using this
/-- Same, of equal bytes. -/
theorem same_eq (xs : List Int) (hl : xs.length ≤ 100000) : ∀ (d i k : Nat), i + d = xs.length → d < k → P.cuneiformref01_Same.l0 k xs xs (i : Int) = some true := by
  intro d
  induction d with
  | zero =>
    intro i k hi hk
    obtain ⟨k, rfl⟩ : ∃ m, k = m + 1 := ⟨k - 1, by omega⟩
    simp only [P.cuneiformref01_Same.l0]
    rw [if_neg (by omega)]
  | succ d ih =>
    intro i k hi hk
    obtain ⟨k, rfl⟩ : ∃ m, k = m + 1 := ⟨k - 1, by omega⟩
    have hw : wrap64 ((i : Int) + 1) = ((i + 1 : Nat) : Int) := by unfold wrap64; omega
    simp only [P.cuneiformref01_Same.l0]
    rw [if_pos (by omega), if_pos (by omega), if_pos (by omega), hw]
    simp only [if_true]
    exact ih (i + 1) k (by omega) (by omega)
theorem same_f (xs : List Int) (hl : xs.length ≤ 100000) (k : Nat) (hk : xs.length < k) : P.cuneiformref01_Same.f k xs xs = some true := by
  simp only [P.cuneiformref01_Same.f, if_true]
  exact same_eq xs hl xs.length 0 k (by omega) hk
theorem law_l0 (A B : List (List Int × Int)) (hl : (A ++ B).length ≤ 100000) (hx : ∀ x ∈ B, (crop x.1).length ≤ 255) : ∀ (d i k : Nat), i + d = B.length → d + 300 < k →
    P.cuneiformlaw09_Same.l0 k (B.map seg39) ((A ++ B).map seg61) (A.length : Int) (i : Int) = some true := by
  intro d
  induction d with
  | zero =>
    intro i k hi hk
    obtain ⟨k, rfl⟩ : ∃ m, k = m + 1 := ⟨k - 1, by omega⟩
    simp only [P.cuneiformlaw09_Same.l0, List.length_map]
    rw [if_neg (by omega)]
  | succ d ih =>
    intro i k hi hk
    obtain ⟨k, rfl⟩ : ∃ m, k = m + 1 := ⟨k - 1, by omega⟩
    rw [List.length_append] at hl
    have hlt : i < B.length := by omega
    have hw : wrap64 ((i : Int) + 1) = ((i + 1 : Nat) : Int) := by unfold wrap64; omega
    have hw2 : wrap64 ((A.length : Int) + (i : Int)) = ((A.length + i : Nat) : Int) := by unfold wrap64; omega
    have h1 : P.rd_T39 (B.map seg39) (i : Int) = seg39 B[i] := by
      simp [P.rd_T39, List.getD_eq_getElem?_getD, List.getElem?_eq_getElem hlt]
    have h2 : P.rd_T61 ((A ++ B).map seg61) ((A.length + i : Nat) : Int) = seg61 B[i] := by
      simp only [P.rd_T61, Int.toNat_natCast, List.getD_eq_getElem?_getD, List.getElem?_map, List.getElem?_append_right (Nat.le_add_right A.length i), Nat.add_sub_cancel_left, List.getElem?_eq_getElem hlt]
      rfl
    have hs : P.cuneiformref09_Same.f k (seg39 B[i]).f0 (seg39 B[i]).f1 (seg39 B[i]).f2 (seg39 B[i]).f3 (seg61 B[i]).f0 (seg61 B[i]).f1 (seg61 B[i]).f2 (seg61 B[i]).f3 = some true := by
      have h3 := hx B[i] (List.getElem_mem hlt)
      simp only [P.cuneiformref09_Same.f, seg39, seg61]
      rw [same_f (crop B[i].1) (by omega) k (by omega)]
      simp
    simp only [P.cuneiformlaw09_Same.l0, List.length_map, List.length_append]
    rw [hw2, if_pos (by omega), if_pos (by omega), if_pos (by omega), if_pos (by omega), h1, h2, hs, hw]
    simp only [Option.bind_some, if_true]
    exact ih (i + 1) k (by omega) (by omega)
theorem crop_le (x : List Int) : (crop x).length ≤ 255 := by
  unfold crop; split
  · simp
  · omega
theorem law_f (A B : List (List Int × Int)) (hl : (A ++ B).length ≤ 100000) (k : Nat) (hk : B.length + 300 < k) : P.cuneiformlaw09_Same.f k (B.map seg39) ((A ++ B).map seg61) (A.length : Int) = some true := by
  have hl' := hl
  rw [List.length_append] at hl'
  have hw : wrap64 (((A ++ B).length : Int) - (A.length : Int)) = (B.length : Int) := by rw [List.length_append]; unfold wrap64; omega
  simp only [P.cuneiformlaw09_Same.f, List.length_map]
  rw [hw, if_pos rfl]
  exact law_l0 A B hl (fun x _ => crop_le _) B.length 0 k (by omega) hk
theorem spl_app : ∀ (a b now : List Int) (i : Nat), spl now i (a ++ b) = spl now i a ++ spl (opn now a) (i + a.length) b
  | [], b, now, i => by simp [spl, opn]
  | c :: a, b, now, i => by
    have e : i + 1 + a.length = i + (c :: a).length := by simp only [List.length_cons]; omega
    simp only [List.cons_append, spl, opn]
    by_cases hc : c = 0
    · rw [if_pos hc, if_pos hc, if_pos hc]
      by_cases hn : now = []
      · rw [if_pos hn, if_pos hn, spl_app a b [] (i + 1), e]
      · rw [if_neg hn, if_neg hn, spl_app a b [] (i + 1), e]; rfl
    · rw [if_neg hc, if_neg hc, if_neg hc, spl_app a b (now ++ [c]) (i + 1), e]
theorem opn_app : ∀ (a b now : List Int), opn now (a ++ b) = opn (opn now a) b
  | [], b, now => by simp [opn]
  | c :: a, b, now => by
    simp only [List.cons_append, opn]
    by_cases hc : c = 0
    · rw [if_pos hc, if_pos hc, opn_app a b []]
    · rw [if_neg hc, if_neg hc, opn_app a b (now ++ [c])]
end Go.Proofs.Ytmkhhnhoodneeaa
