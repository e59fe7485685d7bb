/- The document's answer: its blocks, what it stuffs, what it decodes. -/
import Derived.Test.YtmpampbpkcfdoaaPx2
import Derived.Test.YtmpampbpkcfdoaaSam
set_option linter.unusedVariables false
set_option linter.unusedSimpArgs false
namespace Go.Proofs.Ytmpampbpkcfdoaa.P
open Go.RowKit Go.Proofs.YtmpampbpkcfdoaaW.PrintWords Go.Proofs.YtmpampbpkcfdoaaW.PrintMore Go.Proofs.Ytmpampbpkcfdoaa.Ext Go.Proofs.Ytmpampbpkcfdoaa

theorem w64 {x : Int} (h : -9000000000000000000 ≤ x ∧ x ≤ 9000000000000000000) : wrap64 x = x := by unfold wrap64; omega
theorem rd_app (pre rest : List Int) (c : Int) : rd (pre ++ c :: rest) (pre.length : Int) = c := by
  rw [rd_get (by simp)]; simp
theorem rblocks_loop (x0 : List Int) (hn : x0.length ≤ 1000000) : ∀ (rest pre : List Int) (out : List (List Int)) (now : List Int) (ended : Bool), x0 = pre ++ rest → 0 ∉ now → now.length < 254 → out.length ≤ pre.length → (ended = true → now = []) → ∀ k, rest.length < k →
    cuneiformref05_Blocks.l0 k x0 out now ended (pre.length : Int) = some (out ++ (if ended = true ∧ rest = [] then [] else blks (now ++ rest)))
  | [], pre, out, now, ended, hx, h0, hl, ho, he, k, hk => by
    obtain ⟨k, rfl⟩ : ∃ m, k = m + 1 := ⟨k - 1, by omega⟩
    have hxl : x0.length = pre.length := by rw [hx]; simp
    simp only [cuneiformref05_Blocks.l0]
    rw [if_neg (by omega)]
    cases ended with
    | true => simp
    | false =>
      rw [if_neg (by simp), if_pos (by omega), if_neg (by simp), List.append_nil, blks_last now h0 (by omega)]
  | c :: rest, pre, out, now, ended, hx, h0, hl, ho, he, k, hk => by
    obtain ⟨k, rfl⟩ : ∃ m, k = m + 1 := ⟨k - 1, by simp at hk; omega⟩
    have hxl : x0.length = pre.length + 1 + rest.length := by rw [hx]; simp; omega
    have hrd : rd x0 (pre.length : Int) = c := by rw [hx]; exact rd_app pre rest c
    have hi : wrap64 ((pre.length : Int) + 1) = ((pre ++ [c]).length : Int) := by rw [w64 (by omega)]; simp
    have hx2 : x0 = (pre ++ [c]) ++ rest := by rw [hx]; simp
    have hk2 : rest.length < k := by simp at hk; omega
    simp only [cuneiformref05_Blocks.l0]
    rw [if_pos (by omega), if_pos (by omega), hrd, hi, if_neg (show ¬ (ended = true ∧ c :: rest = []) by simp)]
    by_cases hc : c = 0
    · subst hc
      rw [if_pos rfl, if_pos (by omega), rblocks_loop x0 hn rest (pre ++ [0]) _ _ _ hx2 (by simp) (by simp) (by simp; omega) (by simp) k hk2, blks_zero now rest h0 hl]
      simp
    · rw [if_neg hc, if_pos (by omega)]
      simp only [Option.bind_some]
      have h0' : 0 ∉ now ++ [c] := by
        intro h; rcases List.mem_append.1 h with h | h
        · exact h0 h
        · exact hc (List.mem_singleton.1 h).symm
      by_cases h254 : now.length = 253
      · rw [if_pos (by simp; omega), if_pos (by omega), rblocks_loop x0 hn rest (pre ++ [c]) _ _ _ hx2 (by simp) (by simp) (by simp; omega) (by simp) k hk2]
        rw [show now ++ c :: rest = (now ++ [c]) ++ rest by simp]
        by_cases hr : rest = []
        · subst hr; rw [if_pos (by simp), List.append_nil, List.append_nil, blks_last _ h0' (by simp; omega)]
        · rw [if_neg (by simp [hr]), blks_full _ rest h0' (by simp; omega) hr]; simp
      · rw [if_neg (by simp; omega), rblocks_loop x0 hn rest (pre ++ [c]) _ _ _ hx2 h0' (by simp; omega) (by simp; omega) (by simp) k hk2]
        rw [if_neg (by simp)]; simp
theorem rblocks_f (l : List Int) (hn : l.length ≤ 1000000) (k : Nat) (hk : l.length < k) : cuneiformref05_Blocks.f k l = some (blks l) := by
  have := rblocks_loop l hn l [] [] [] false rfl (by simp) (by simp) (by simp) (by simp) k hk
  simpa [cuneiformref05_Blocks.f] using this

theorem rd_L1_get {l : List (List Int)} {k : Nat} (h : k < l.length) : rd_L1 l (k : Int) = l[k] := by simp [rd_L1, List.getD_eq_getElem?_getD, List.getElem?_eq_getElem h]
theorem renc_loop (l : List (List Int)) (hl : ∀ x ∈ l, x.length ≤ 254) (hn : l.length ≤ 2000000) : ∀ (d i : Nat) (out : List Int), i + d = l.length → out.length + szs (l.drop i) ≤ 1000000000 → ∀ k, d < k →
    cuneiformref05_Encode.l0 k out l (i : Int) = some (out ++ enc (l.drop i)) := by
  intro d
  induction d with
  | zero =>
    intro i out hi ho k hk
    obtain ⟨k, rfl⟩ : ∃ m, k = m + 1 := ⟨k - 1, by omega⟩
    simp only [cuneiformref05_Encode.l0]
    rw [if_neg (by omega), List.drop_of_length_le (by omega)]; simp [enc]
  | succ d ih =>
    intro i out hi ho k hk
    obtain ⟨k, rfl⟩ : ∃ m, k = m + 1 := ⟨k - 1, by omega⟩
    have hil : i < l.length := by omega
    have h254 := hl l[i] (List.getElem_mem hil)
    have hd := List.drop_eq_getElem_cons hil
    rw [hd] at ho
    simp only [szs] at ho
    simp only [cuneiformref05_Encode.l0]
    rw [if_pos (by omega), if_pos (by omega), if_pos (by omega), rd_L1_get hil]
    simp only [Option.bind_some]
    have e1 : wrap64 ((l[i].length : Int) + 1) % 256 = ((l[i].length + 1 : Nat) : Int) := by rw [w64 (by omega)]; omega
    have e2 : wrap64 ((i : Int) + 1) = ((i + 1 : Nat) : Int) := by rw [w64 (by omega)]; omega
    rw [if_pos (by simp; omega), e1, e2, ih (i + 1) _ (by omega) (by simp; omega) k (by omega), hd]
    simp [enc]
theorem renc_f (l : List Int) (hn : l.length ≤ 1000000) (k : Nat) (hk : l.length + 1 < k) : cuneiformref05_Encode.f k l = some (enc (blks l)) := by
  unfold cuneiformref05_Encode.f
  have h1 := blks_len l
  have h2 := szs_most l
  rw [rblocks_f l hn k (by omega)]
  simp only [Option.bind_some]
  have := renc_loop (blks l) (fun x hx => bls_mem _ _ x hx) (by omega) (blks l).length 0 [] (by omega) (by simp; omega) k (by omega)
  simpa using this

/-- What the document's decoding lays out, ahead of its check. -/
def raw : Nat → List Int → List Int → Option (List Int)
  | 0, _, _ => none
  | _ + 1, [], out => some out
  | f + 1, x :: r, out => if x = 0 then none else raw f (r.drop (x - 1).toNat) (out ++ r.take (x - 1).toNat ++ (if x < 255 ∧ (x - 1).toNat < r.length then [0] else []))
theorem raw_enc (l : List Int) : ∀ (f : Nat) (out : List Int), (enc (blks l)).length < f → raw f (enc (blks l)) out = some (out ++ l) := by
  refine blks_ind (P := fun l => ∀ (f : Nat) (out : List Int), (enc (blks l)).length < f → raw f (enc (blks l)) out = some (out ++ l)) ?_ ?_ ?_ l
  · intro p r h0 hp hb ih f out hf
    obtain ⟨f, rfl⟩ : ∃ g, f = g + 1 := ⟨f - 1, by omega⟩
    rw [hb] at hf ⊢
    have hpos := enc_pos r
    simp only [enc, List.cons_append, List.length_cons, List.length_append] at hf ⊢
    unfold raw
    have e1 : (((p.length + 1 : Nat) : Int) - 1).toNat = p.length := by omega
    rw [e1, if_neg (by omega), List.drop_left, List.take_left, if_pos (by rw [List.length_append]; omega), ih f _ (by omega)]
    simp
  · intro p r h0 hp hr hb ih f out hf
    obtain ⟨f, rfl⟩ : ∃ g, f = g + 1 := ⟨f - 1, by omega⟩
    rw [hb] at hf ⊢
    simp only [enc, List.cons_append, List.length_cons, List.length_append] at hf ⊢
    unfold raw
    have e1 : (((p.length + 1 : Nat) : Int) - 1).toNat = p.length := by omega
    rw [e1, if_neg (by omega), List.drop_left, List.take_left, if_neg (by omega), ih f _ (by omega)]
    simp
  · intro l h0 hp hb f out hf
    obtain ⟨f, rfl⟩ : ∃ g, f = g + 1 := ⟨f - 1, by omega⟩
    rw [hb] at hf ⊢
    simp only [enc, List.append_nil, List.length_cons] at hf ⊢
    unfold raw
    have e1 : (((l.length + 1 : Nat) : Int) - 1).toNat = l.length := by omega
    rw [e1, if_neg (by omega), List.drop_length, List.take_length, if_neg (by omega), List.append_nil]
    obtain ⟨f, rfl⟩ : ∃ g, f = g + 1 := ⟨f - 1, by omega⟩
    rfl

theorem l1_eq (k : Nat) (x0 x4 : List Int) (x5 x6 x7 : Int) : cuneiformref05_Decode.l1 (k + 1) x0 x4 x5 x6 x7 = if x7 < x6 then (if (wrap64 (x5 + x7)) < (x0.length : Int) then (if 0 ≤ (wrap64 (x5 + x7)) then (if x4.length < 140737488355328 then (cuneiformref05_Decode.l1 k x0 (x4 ++ [rd x0 (wrap64 (x5 + x7))]) x5 x6 (wrap64 (x7 + 1))) else (none)) else (none)) else (cuneiformref05_Decode.j2 k x0 x4 x5 x6)) else (cuneiformref05_Decode.j2 k x0 x4 x5 x6) := by
  simp only [cuneiformref05_Decode.l1]
theorem j2_eq (k : Nat) (x0 x4 : List Int) (x5 x6 : Int) : cuneiformref05_Decode.j2 (k + 1) x0 x4 x5 x6 = if x6 = 0 then (some (([] : List Int), 12)) else (if x6 < 255 then (if (wrap64 (x5 + x6)) < (x0.length : Int) then (if x4.length < 140737488355328 then (cuneiformref05_Decode.l0 k x0 (x4 ++ [0]) (wrap64 (x5 + x6))) else (none)) else (cuneiformref05_Decode.l0 k x0 x4 (wrap64 (x5 + x6)))) else (cuneiformref05_Decode.l0 k x0 x4 (wrap64 (x5 + x6)))) := by
  simp only [cuneiformref05_Decode.j2]
theorem l0_eq (k : Nat) (x0 x4 : List Int) (x5 : Int) : cuneiformref05_Decode.l0 (k + 1) x0 x4 x5 = if x5 < (x0.length : Int) then (if 0 ≤ x5 then (cuneiformref05_Decode.l1 k x0 x4 x5 (wrap64 (rd x0 x5)) 1) else (none)) else ((cuneiformref05_Encode.f k x4).bind fun t205 => ((cuneiformref01_Same.f k t205 x0).bind fun t208 => (if t208 = true then (some (x4, 0)) else (some (([] : List Int), 12))))) := by
  simp only [cuneiformref05_Decode.l0]
theorem rdec_inner (b : List Int) (hn : b.length ≤ 1000000) (at_ n : Nat) (hna : at_ ≤ 1000000) (hnn : n ≤ 255) : ∀ (m i : Nat) (out : List Int), min (n - i) (b.length - (at_ + i)) = m → i ≤ 300 → out.length + m ≤ 2000000 → ∀ k,
    cuneiformref05_Decode.l1 (k + m + 1) b out (at_ : Int) (n : Int) (i : Int) = cuneiformref05_Decode.j2 k b (out ++ (b.drop (at_ + i)).take (n - i)) (at_ : Int) (n : Int) := by
  intro m
  induction m with
  | zero =>
    intro i out hm hi ho k
    rw [Nat.add_zero, l1_eq]
    have hz : (b.drop (at_ + i)).take (n - i) = [] := by
      apply List.length_eq_zero_iff.1; rw [List.length_take, List.length_drop]; exact hm
    rw [hz, List.append_nil, w64 (by omega)]
    by_cases h1 : (i : Int) < (n : Int)
    · rw [if_pos h1, if_neg (by omega)]
    · rw [if_neg h1]
  | succ m ih =>
    intro i out hm hi ho k
    have h1 : i < n := by omega
    have h2 : at_ + i < b.length := by omega
    rw [show k + (m + 1) + 1 = (k + m + 1) + 1 by omega]
    rw [l1_eq]
    have e1 : wrap64 ((at_ : Int) + (i : Int)) = ((at_ + i : Nat) : Int) := by rw [w64 (by omega)]; omega
    have e2 : wrap64 ((i : Int) + 1) = ((i + 1 : Nat) : Int) := by rw [w64 (by omega)]; omega
    rw [if_pos (by omega), e1, if_pos (by omega), if_pos (by omega), if_pos (by omega), e2, rd_get h2, ih (i + 1) _ (by omega) (by omega) (by simp; omega) k]
    rw [List.drop_eq_getElem_cons h2, show n - i = (n - (i + 1)) + 1 by omega, List.take_succ_cons, show at_ + (i + 1) = at_ + i + 1 by omega]
    simp

/-- The check at the end. -/
def fin (b : List Int) : Option (List Int) → List Int × Int
  | none => ([], 12)
  | some o => if enc (blks o) = b then (o, 0) else ([], 12)
theorem aux1 {L a n f : Nat} (h : L - a < f + 1) (h1 : a < L) (h2 : 1 ≤ n) : L - (a + n) < f := by omega
theorem aux2 {L a n m K k : Nat} (h : 3 * (L - a) + K ≤ k + 1 + m + 1 + 1) (h1 : a < L) (h2 : 1 ≤ n) (h3 : min (n - 1) (L - (a + 1)) = m) : 3 * (L - (a + n)) + K ≤ k := by omega
theorem rdec_loop (b : List Int) (hn : b.length ≤ 1000) (hb : inByte b = true) (K0 : Nat) (hK0 : 5000 ≤ K0) : ∀ (f at_ : Nat) (out : List Int), (b.drop at_).length < f → at_ ≤ b.length + 255 → out.length ≤ at_ → ∀ k, 3 * (b.drop at_).length + K0 ≤ k →
    cuneiformref05_Decode.l0 k b out (at_ : Int) = some (fin b (raw f (b.drop at_) out)) := by
  intro f
  induction f with
  | zero => intro at_ out h; exact absurd h (by omega)
  | succ f ih =>
    intro at_ out hf ha ho k hk
    rw [List.length_drop] at hf hk
    obtain ⟨k, rfl⟩ : ∃ m, k = m + 1 := ⟨k - 1, by omega⟩
    rw [l0_eq]
    by_cases hat : at_ < b.length
    · have hx : 0 ≤ b[at_] ∧ b[at_] < 256 := by rw [inByte_iff] at hb; exact hb _ (List.getElem_mem hat)
      rw [if_pos (by omega), if_pos (by omega), rd_get hat]
      have hdr := List.drop_eq_getElem_cons hat
      obtain ⟨n, hnx⟩ : ∃ n : Nat, b[at_] = (n : Int) := ⟨b[at_].toNat, by omega⟩
      rw [hdr, hnx, w64 (by omega)]
      unfold raw
      obtain ⟨m, hm⟩ : ∃ m, min (n - 1) (b.length - (at_ + 1)) = m := ⟨_, rfl⟩
      obtain ⟨k, rfl⟩ : ∃ q, k = (q + 1) + m + 1 := ⟨k - m - 2, by omega⟩
      rw [show (1 : Int) = ((1 : Nat) : Int) from rfl, rdec_inner b (by omega) at_ n (by omega) (by omega) m 1 out hm (by omega) (by omega) (k + 1)]
      have hlt : ((b.drop (at_ + 1)).take (n - 1)).length = m := by rw [List.length_take, List.length_drop]; exact hm
      rw [j2_eq]
      have e0 : ((n : Int) - ((1 : Nat) : Int)).toNat = n - 1 := by omega
      by_cases hz : (n : Int) = 0
      · rw [if_pos hz, if_pos hz]; rfl
      · have hn1 : 1 ≤ n := by omega
        have e1 : wrap64 ((at_ : Int) + (n : Int)) = ((at_ + n : Nat) : Int) := by rw [w64 (by omega)]; omega
        have e2 : b.drop (at_ + n) = (b.drop (at_ + 1)).drop (n - 1) := by rw [List.drop_drop]; congr 1; omega
        rw [if_neg hz, if_neg hz, e1, e0]
        have hdl : (b.drop (at_ + n)).length < f := by rw [List.length_drop]; exact aux1 hf hat hn1
        have hkk : 3 * (b.drop (at_ + n)).length + K0 ≤ k := by rw [List.length_drop]; exact aux2 hk hat hn1 hm
        have hn255 : n ≤ 255 := by omega
        have htk : ((b.drop (at_ + 1)).take (n - 1)).length + 1 ≤ n := by rw [hlt]; clear hk hf hdl hkk; omega
        have hdd : (n - 1 < (b.drop (at_ + 1)).length) ↔ at_ + n < b.length := by rw [List.length_drop]; clear hk hf hdl hkk hm hlt; omega
        rw [← e2]
        generalize (b.drop (at_ + 1)).take (n - 1) = tk at *
        clear hlt hm hk hf hdr hnx hx e1 e2 e0 hz
        by_cases h2 : (n : Int) < 255
        · rw [if_pos h2]
          by_cases h3 : at_ + n < b.length
          · have q1 : ((at_ + n : Nat) : Int) < (b.length : Int) := by omega
            have q2 : (out ++ tk).length < 140737488355328 := by rw [List.length_append]; omega
            have q3 : (out ++ tk ++ [0]).length ≤ at_ + n := by rw [List.length_append, List.length_append, List.length_singleton]; omega
            rw [if_pos q1, if_pos q2, ih (at_ + n) _ hdl (by omega) q3 k hkk, if_pos ⟨h2, hdd.2 h3⟩]
          · have q1 : ¬ ((at_ + n : Nat) : Int) < (b.length : Int) := by omega
            have q3 : (out ++ tk).length ≤ at_ + n := by rw [List.length_append]; omega
            rw [if_neg q1, ih (at_ + n) _ hdl (by omega) q3 k hkk, if_neg (fun h => h3 (hdd.1 h.2)), List.append_nil]
        · have q3 : (out ++ tk).length ≤ at_ + n := by rw [List.length_append]; omega
          rw [if_neg h2, ih (at_ + n) _ hdl (by omega) q3 k hkk, if_neg (fun h => h2 h.1), List.append_nil]
    · rw [if_neg (by omega), List.drop_of_length_le (by omega), renc_f out (by omega) k (by omega)]
      simp only [Option.bind_some]
      have hel : (enc (blks out)).length ≤ 3000 := by rw [enc_len]; have := szs_most out; omega
      rw [same_f _ _ (by omega) k (by omega)]
      simp only [Option.bind_some, raw, fin, decide_eq_true_eq]
      split <;> rfl
theorem rdec_f (b : List Int) (hn : b.length ≤ 1000) (hb : inByte b = true) (k : Nat) (hk : 8000 ≤ k) : cuneiformref05_Decode.f k b = some (decoded b) := by
  unfold cuneiformref05_Decode.f
  have h := rdec_loop b hn hb 5000 (Nat.le_refl _) (b.length + 1) 0 [] (by simp) (by omega) (by simp) k (by simp; omega)
  rw [show ((0 : Nat) : Int) = 0 from rfl] at h
  rw [h, List.drop_zero]
  rcases decoded_ok b hb with ⟨e, hne⟩ | ⟨o, e, rfl⟩
  · rw [e]
    cases raw (b.length + 1) b [] with
    | none => rfl
    | some o => simp only [fin]; rw [if_neg (hne o)]
  · rw [raw_enc o _ _ (by omega), e]
    simp [fin]
end Go.Proofs.Ytmpampbpkcfdoaa.P
