/- Part 26 of the proof of TopWire: Evo, Evp, Evx, Evy. -/
import Derived.Deep.AppendSrc
import Derived.Great.BuildSlice
import Derived.Laws.AppendOwn
import Derived.Laws.Cells
import Derived.Laws.CopyRow
import Derived.Laws.MakeOwn
import Derived.Test.YtgdlpgakhhebeaaGreatDoorMg25
section
set_option linter.unusedVariables false
namespace Go.Proofs.YtgdlpgakhhebeaaGreatDoor.Ev
open Go
noncomputable section

theorem add_eq (b o i : Nat) : Addr.add ⟨b, o, none⟩ i = ⟨b, o + i, none⟩ := by
  unfold Addr.add
  split
  · rename_i h; subst h; rfl
  · rfl
/-- k cells of a known row. -/
def aloads (H : ASt) (b off k : Nat) : Option (List Value) :=
  match H.heap.get b with
  | some (.cells B) => bif Nat.ble (off + k) B.n then cellsOf B.cs off k else none
  | _ => none
theorem aloads_run {P : Program} {sg : Nat → Pl} {H : ASt} {W : World} (hR : R sg H W) {b off k : Nat} {l : List Value} (h : aloads H b off k = some l) :
    l.length = k ∧ ∃ l' : List Value, (loadCells ⟨(sg b).1, (sg b).2 + off, none⟩ k).run P W = .ok l'.toArray W ∧ LR sg H.next l l' ∧ ∀ C e, Row W (sg b).1 C e → ∀ (i : Nat) (v' : Value), l'[i]? = some v' → C[(sg b).2 + off + i]? = some v' := by
  unfold aloads at h
  split at h
  case h_2 => cases h
  rename_i B hB
  cases hc : Nat.ble (off + k) B.n with
  | false => rw [hc] at h; cases h
  | true =>
  rw [hc, cond_true] at h
  rw [Nat.ble_eq] at hc
  obtain ⟨C, hC, hbr⟩ := hR.cells b B hB
  obtain ⟨h1, h2⟩ := cellsOf_get B.cs k off l h
  obtain ⟨l', h3, h4⟩ := LR.of_at (sg := sg) (N := H.next) (l := l) (fun i => C[(sg b).2 + off + i]?) (fun i v hi => by
    have hik : i < k := by have := (List.getElem?_eq_some_iff.1 hi).1; omega
    obtain ⟨u, u', q1, q2, q3⟩ := hbr (off + i) (by omega)
    rw [h2 i hik, q1] at hi
    cases hi
    exact ⟨u', by rw [← q2]; congr 1; omega, q3⟩)
  refine ⟨h1, l', ?_, h3, fun D e hD i v' hi => by obtain ⟨rfl, _⟩ := hC.inj hD; exact h4 i v' hi⟩
  have hl : l'.length = k := by rw [← h3.1, h1]
  have hrun := run_loadCells_list (P := P) (w := W) ⟨(sg b).1, (sg b).2 + off, none⟩ l' (fun j v hj => by
    rw [add_eq]
    rw [hC.cell]
    exact h4 j v hj)
  rw [hl] at hrun
  exact hrun
end
end Go.Proofs.YtgdlpgakhhebeaaGreatDoor.Ev
end
section
set_option linter.unusedVariables false
namespace Go.Proofs.YtgdlpgakhhebeaaGreatDoor.Ev
open Go
noncomputable section

/-- append: the slice s, upon it m elements, news their cells. -/
def aappend (H : ASt) (s : Value) (news : List Value) (m size bytes elem : Nat) : Option (Value × ASt) :=
  match s with
  | .slice none n c => bif Nat.beq n 0 && (Nat.beq c 0 && Nat.blt (m * bytes) 140737488355328 && Nat.blt m 1000000000000) then
      bif Nat.beq m 0 then some (s, H) else match aadd H news elem H.next size with
      | some H' => some (.slice (some ⟨H.next, 0, none⟩) m m, H')
      | none => none
    else none
  | .slice (some ⟨b, off, none⟩) n c =>
    bif Nat.blt ((n + m) * bytes) 140737488355328 && Nat.blt (n + m) 1000000000000 then
      bif Nat.beq m 0 then some (s, H)
      else bif Nat.ble (n + m) c then match astores b (off + n * size) news H with
        | some H' => some (.slice (some ⟨b, off, none⟩) (n + m) c, H')
        | none => none
      else match H.heap.get b with
        | some (.cells B) => bif Nat.beq B.stride size then match agrow H b off (n * size) news with
            | some H' => some (.slice (some ⟨H.next, 0, none⟩) (n + m) (n + m), H')
            | none => none
          else none
        | _ => none
    else none
  | _ => none
theorem LR.in_front {sg : Nat → Pl} {N : Nat} {l l' : List Value} (h : LR sg N l l') (Z : Array Value) (i : Nat) (v : Value) (hi : l[i]? = some v) : ∃ v', (l'.toArray ++ Z)[i]? = some v' ∧ VR sg N v v' := by
  have h1 : i < l.length := (List.getElem?_eq_some_iff.1 hi).1
  have h2 : i < l'.length := by rw [← h.1]; exact h1
  refine ⟨l'[i], ?_, h.2 i v _ hi (List.getElem?_eq_getElem h2)⟩
  rw [Array.getElem?_append_left (by simpa using h2)]
  simp [h2]
theorem Fr.drew {sg sg' : Nat → Pl} {H H' : ASt} {W W' : World} (h : Fr sg H W.drew sg' H' W') : Fr sg H W sg' H' W' := ⟨h.ext, h.next, h.os, h.output, h.tape, h.size, h.same, h.dom⟩
theorem grown_vr {sg : Nat → Pl} {N b n c' : Nat} {p : Pl} (hp : sg b = p) (h0 : 0 < b) (hb : b < N) (hc : n ≤ c') (hr : p.2 + c' * p.4 ≤ p.3) : VR sg N (.slice (some ⟨b, 0, none⟩) n n) (.slice (some ⟨p.1, p.2, none⟩) n c') := by
  subst hp
  exact VR.sl b 0 n n c' hb h0 (Nat.le_refl _) hc (.inr (by simpa using hr))
theorem run_append_store {P : Program} (W W' : World) (t tx ty e : TypeId) (i : TypeInfo) (ht : P.underlying t = some (.slice e)) (hi : P.info? e = some i) (b off sLen sCap : Nat) (x : Value) (n : Nat) (news : List Value) (hs : Src P i.size tx x n news W)
    (hroom : sLen + n ≤ sCap) (hst : (storeCells ⟨b, off + sLen * i.size, none⟩ news).run P W = .ok () W') :
    (Builtin.append_ #[t, tx] ty #[.slice (some ⟨b, off, none⟩) sLen sCap, x]).run P W = .ok (.slice (some ⟨b, off, none⟩) (sLen + n) sCap) W' := by
  rcases hs.kind with ⟨e', hk⟩ | hk <;> simp [Builtin.append_, run_underlying ht, run_underlying hk, sizeOf, typeInfo, hi, hs.len, hroom, hs.cells, Addr.add_lit, hst]
theorem agrow_row {H H' : ASt} {b off k : Nat} {vs : List Value} (h : agrow H b off k vs = some H') : ∃ B old, H.heap.get b = some (.cells B) ∧ off + k ≤ B.n ∧ cellsOf B.cs off k = some old ∧ aloads H b off k = some old := by
  unfold agrow at h
  split at h
  case h_2 => cases h
  rename_i B0 H1 hcut
  split at h
  case h_2 => cases h
  rename_i old hof
  unfold acut at hcut
  split at hcut
  case h_2 => cases hcut
  rename_i B hB
  cases hc : (Nat.ble (off + k) B.n && (kins H B.grp).all (fun m => Nat.blt m H.next)) with
  | false => rw [hc] at hcut; cases hcut
  | true =>
  rw [hc] at hcut
  cases hcut
  rw [Bool.and_eq_true] at hc
  refine ⟨_, old, hB, by simpa [Nat.ble_eq] using hc.1, hof, ?_⟩
  simp only [aloads, hB, hc.1, cond_true]
  exact hof
/-- The arm that grows, whatever the first argument was. -/
theorem agrow_new {P : Program} {t tx ty e : TypeId} {i : TypeInfo} {z : Value} (ht : P.underlying t = some (.slice e)) (hi : P.info? e = some i) (hz : i.zero = some z) (hzs : z.cells.size = i.size)
    {sg : Nat → Pl} {H H' : ASt} {W : World} (hR : R sg H W) {b off n m c' : Nat} {base : Option Addr} {B : Blk} (hB : H.heap.get b = some (.cells B)) (hst : B.stride = i.size) {x' : Value} {news news' : List Value} (hs : Src P i.size tx x' m news' W) (hn : LR sg H.next news news')
    (hb1 : (n + m) * i.bytes < 140737488355328) (hb2 : n + m < 1000000000000) (hgr : agrow H b off (n * i.size) news = some H') (hc : c' < n + m)
    (hbase : n = 0 ∧ (Builtin.firstCells i.size n (.slice base n c')).run P W.drew = .ok #[] W.drew ∨ base = some ⟨(sg b).1, (sg b).2 + off, none⟩) :
    ∃ v' sg' W', (Builtin.append_ #[t, tx] ty #[.slice base n c', x']).run P W = .ok v' W' ∧ R sg' H' W' ∧ Fr sg H W sg' H' W' ∧ VR sg' H'.next (.slice (some ⟨H.next, 0, none⟩) (n + m) (n + m)) v' := by
  obtain ⟨B', old, hB', hok, hof, hal⟩ := agrow_row hgr
  rw [hB] at hB'
  cases hB'
  obtain ⟨C, hC, hCs, hCt⟩ := hR.room b B hB
  have hRd : R sg H W.drew := hR.world (fun _ _ _ => rfl)
  obtain ⟨hol, old', ho1, ho2, ho3⟩ := aloads_run (P := P) hRd hal
  have hfit := growslice_fits (need := n + m) (old := c') (bytes := i.bytes) hc (by omega)
  have hol' : old'.length = n * i.size := by rw [← ho2.1, hol]
  have hold : (Builtin.firstCells i.size n (.slice base n c')).run P W.drew = .ok old'.toArray W.drew := by
    rcases hbase with ⟨h0, h1⟩ | h1
    · subst h0
      have : old' = [] := List.eq_nil_of_length_eq_zero (by simpa using hol')
      rw [this]; exact h1
    · rw [h1]
      exact ho1
  have hrun := run_append_grow_src (P := P) W t tx ty e i z ht hi hz base n c' old' hold x' m news' hs hc (by omega) hfit
  have hge := grownCap_ge W (n + m) c' e
  have hins := hR.inside hB
  have hg := hR.grow hgr (W' := W.drew.alloc (.cells ((old' ++ news').toArray ++ Builtin.zeroCells z.cells (grownCap W (n + m) c' e - (n + m))) e)) (kc := W.heap.size) (o' := 0)
    (C' := (old' ++ news').toArray ++ Builtin.zeroCells z.cells (grownCap W (n + m) c' e - (n + m))) hB (Row.of (heap_alloc_new W.drew _)) (.inr (Nat.le_refl _))
    (fun x hx _ => by show (W.heap.push _)[x]? = _; rw [Array.getElem?_push, if_neg (by omega)]) (fun D hD => by
      obtain ⟨rfl, _⟩ := hC.inj hD
      refine ⟨fun e => by omega, fun j hj => ?_⟩
      rw [Nat.zero_add, Array.getElem?_append_left (by simp; omega)]
      simp only [List.getElem?_toArray]
      rw [List.getElem?_append_left (by omega), List.getElem?_eq_getElem (by omega)]
      exact (ho3 C B.elem hC j _ (List.getElem?_eq_getElem (by omega))).symm) (fun j u hj => by
      have hj1 : j < news.length := (List.getElem?_eq_some_iff.1 hj).1
      have hj2 : j < news'.length := by rw [← hn.1]; exact hj1
      refine ⟨news'[j], ?_, hn.2 j u _ hj (List.getElem?_eq_getElem hj2)⟩
      rw [Nat.zero_add, Array.getElem?_append_left (by simp; omega)]
      simp only [List.getElem?_toArray]
      rw [List.getElem?_append_right (by omega), hol', Nat.add_sub_cancel_left, List.getElem?_eq_getElem hj2]) rfl rfl rfl (by show _ ≤ (W.heap.push _).size; simp)
  refine ⟨_, _, _, hrun, hg.1, hg.2.1, ?_⟩
  rw [hg.2.2]
  refine grown_vr (p := ⟨W.heap.size, 0, _, B.stride⟩) (if_pos rfl) hR.pos (Nat.lt_succ_self _) hge ?_
  simp only [Nat.zero_add, Array.size_append, List.size_toArray, List.length_append, size_zeroCells, hzs, hs.newsLen, hol', hst]
  rw [← Nat.add_mul, ← Nat.add_mul]
  exact Nat.mul_le_mul_right _ (by omega)
theorem aappend_run {P : Program} {t tx ty e : TypeId} {i : TypeInfo} {z : Value} (ht : P.underlying t = some (.slice e)) (hi : P.info? e = some i) (hz : i.zero = some z) (hzs : z.cells.size = i.size) (hsz : 0 < i.size)
    {sg : Nat → Pl} {H H' : ASt} {W : World} (hR : R sg H W) {s s' v : Value} (hv : VR sg H.next s s') {x' : Value} {m : Nat} {news news' : List Value} (hs : Src P i.size tx x' m news' W) (hn : LR sg H.next news news')
    (h : aappend H s news m i.size i.bytes e = some (v, H')) :
    ∃ v' sg' W', (Builtin.append_ #[t, tx] ty #[s', x']).run P W = .ok v' W' ∧ R sg' H' W' ∧ Fr sg H W sg' H' W' ∧ VR sg' H'.next v v' := by
  have hnl : news.length = m * i.size := by rw [hn.1, hs.newsLen]
  have hpos : m ≠ 0 → 0 < m * i.size := fun hm => Nat.mul_pos (Nat.pos_of_ne_zero hm) hsz
  cases hv with
  | slNil =>
    simp only [aappend, Bool.cond_eq_ite] at h
    split at h
    case isFalse => cases h
    rename_i hc
    simp only [Bool.and_eq_true, Nat.beq_eq, Nat.blt_eq] at hc
    split at h
    · rename_i hm
      have hm : m = 0 := by simpa using hm
      subst hm
      cases h
      have hx : news' = [] := List.eq_nil_of_length_eq_zero (by simpa using hs.newsLen)
      subst hx
      refine ⟨.slice none 0 0, sg, W, ?_, hR, Fr.refl _ _ _, .slNil⟩
      rcases hs.kind with ⟨e', hk⟩ | hk <;> simp [Builtin.append_, run_underlying ht, run_underlying hk, sizeOf, typeInfo, hi, hs.len, hs.cells]
    · rename_i hm
      have hm : m ≠ 0 := by simpa using hm
      split at h
      case h_2 => cases h
      rename_i H1 hadd
      cases h
      have hfit := growslice_fits (need := m) (old := 0) (bytes := i.bytes) (by omega) (by omega)
      have hrun := run_append_grow_src (P := P) W t tx ty e i z ht hi hz none 0 0 [] (run_firstCells_none W.drew i.size 0 0 0) x' m news' hs (by omega) (by omega) (by simpa using hfit)
      simp only [Nat.zero_add, List.nil_append] at hrun
      have hnew := (hR.world (W' := W.drew) (fun _ _ _ => rfl)).new hadd (C := news'.toArray ++ Builtin.zeroCells z.cells (grownCap W m 0 e - m)) (fun j u hj => hn.in_front _ j u hj)
      refine ⟨_, _, _, hrun, hnew.1, hnew.2.1.drew, ?_⟩
      rw [hnew.2.2]
      have hge := grownCap_ge W m 0 e
      refine grown_vr (p := ⟨W.heap.size, 0, _, i.size⟩) (if_pos rfl) hR.pos (Nat.lt_succ_self _) hge ?_
      simp only [Nat.zero_add, Array.size_append, List.size_toArray, size_zeroCells, hzs, hs.newsLen]
      rw [← Nat.add_mul]
      exact Nat.mul_le_mul_right _ (by omega)
  | sl b off n c c' hb h0 hnc hcc hr =>
    simp only [aappend, Bool.cond_eq_ite] at h
    split at h
    case isFalse => cases h
    rename_i hbnd
    simp only [Bool.and_eq_true, Nat.blt_eq] at hbnd
    split at h
    · rename_i hm
      have hm : m = 0 := by simpa using hm
      subst hm
      cases h
      have hx : news' = [] := List.eq_nil_of_length_eq_zero (by simpa using hs.newsLen)
      subst hx
      exact ⟨_, sg, W, run_append_store (P := P) W W t tx ty e i ht hi _ _ n c' x' 0 [] hs (by omega) rfl, hR, Fr.refl _ _ _, VR.sl b off n c c' hb h0 hnc hcc hr⟩
    rename_i hm
    have hm : m ≠ 0 := by simpa using hm
    have hmp := hpos hm
    split at h
    · rename_i hfit
      rw [Nat.ble_eq] at hfit
      split at h
      case h_2 => cases h
      rename_i H1 hst
      cases h
      obtain ⟨W', q1, q2, q3, q4⟩ := astores_run (P := P) news news' b (off + n * i.size) 0 ((sg b).2 + off + n * i.size) hR hn hst (by omega)
      exact ⟨_, sg, W', run_append_store (P := P) W W' t tx ty e i ht hi _ _ n c' x' m news' hs (by omega) q1, q2, q3, by rw [q4]; exact VR.sl b off (n + m) c c' hb h0 hfit hcc hr⟩
    · rename_i hfit
      rw [Nat.ble_eq] at hfit
      split at h
      case h_2 => cases h
      rename_i B hB
      split at h
      case isFalse => cases h
      rename_i hck
      have hck1 : B.stride = i.size := by simpa [Nat.beq_eq] using hck
      split at h
      case h_2 => cases h
      rename_i H1 hgr
      cases h
      obtain ⟨B', old, hB', hok, hof, hal⟩ := agrow_row hgr
      rw [hB] at hB'
      cases hB'
      obtain ⟨C, hC, hCs, hCt⟩ := hR.room b B hB
      by_cases hin : n + m ≤ c'
      · -- where it lay
        have hroom : (sg b).2 + off + (n + m) * i.size ≤ C.size := by
          have hr' : (sg b).2 + off + c' * (sg b).4 ≤ (sg b).3 := by
            rcases hr with e | e
            · omega
            · exact e
          rw [hCs]
          rw [← hCt, hck1] at hr'
          have := Nat.mul_le_mul_right i.size hin
          omega
        rw [Nat.add_mul] at hroom
        have hcell : ∀ j, j < news'.length → ∃ u, C[(sg b).2 + off + n * i.size + j]? = some u := fun j hj => ⟨_, Array.getElem?_eq_getElem (by have := hs.newsLen; omega)⟩
        have hst := run_storeCells_cells (P := P) (sg b).1 ((sg b).2 + off + n * i.size) news' 0 W (fun j hj => by
            obtain ⟨u, hu⟩ := hcell j hj
            rw [hC.cell, Nat.add_zero, hu]; rfl) (fun j hj => by
            obtain ⟨u, hu⟩ := hcell j hj
            rw [Nat.add_zero]
            exact hC.frozen (Array.getElem?_eq_some_iff.1 hu).1) hs.one
        simp only [Nat.add_zero] at hst
        have hrun := run_append_store (P := P) W _ t tx ty e i ht hi _ _ n c' x' m news' hs hin hst
        obtain ⟨C', d1, d2, d3, d4, d5, d6, d7, d8⟩ := setCells_heap (sg b).1 B.elem news' ((sg b).2 + off + n * i.size) W C hC
        have hg := hR.grow hgr (W' := W.setCells (sg b).1 ((sg b).2 + off + n * i.size) news') (kc := (sg b).1) (o' := (sg b).2 + off) (C' := C') hB d2.1 (.inl ⟨rfl, by rw [d1, hCs]⟩)
          (fun x _ hx => d2.2 x hx) (fun D hD => by
            obtain ⟨rfl, _⟩ := hC.inj hD
            exact ⟨fun _ j hj => d3 j (.inl hj), fun j hj => d3 _ (.inl (by omega))⟩) (fun j u hj => by
            have hj1 : j < news.length := (List.getElem?_eq_some_iff.1 hj).1
            have hj2 : j < news'.length := by rw [← hn.1]; exact hj1
            refine ⟨news'[j], ?_, hn.2 j u _ hj (List.getElem?_eq_getElem hj2)⟩
            rw [d4 j hj2 (by have := hs.newsLen; omega), List.getElem?_eq_getElem hj2]) d5 d6 d7 (by rw [d8]; exact Nat.le_refl _)
        refine ⟨_, _, _, hrun, hg.1, hg.2.1, ?_⟩
        rw [hg.2.2]
        refine grown_vr (p := ⟨(sg b).1, (sg b).2 + off, C'.size, B.stride⟩) (if_pos rfl) hR.pos (Nat.lt_succ_self _) hin ?_
        simp only
        rw [d1, hCs, hCt]
        rcases hr with e | e
        · omega
        · exact e
      · exact agrow_new ht hi hz hzs hR hB hck1 hs hn hbnd.1 hbnd.2 hgr (by omega) (.inr rfl)
  | slE b off x y hb h0 =>
    simp only [aappend, Bool.cond_eq_ite] at h
    split at h
    case isFalse => cases h
    rename_i hbnd
    simp only [Bool.and_eq_true, Nat.blt_eq] at hbnd
    split at h
    · rename_i hm
      have hm : m = 0 := by simpa using hm
      subst hm
      cases h
      have hx : news' = [] := List.eq_nil_of_length_eq_zero (by simpa using hs.newsLen)
      subst hx
      exact ⟨_, sg, W, run_append_store (P := P) W W t tx ty e i ht hi _ _ 0 0 x' 0 [] hs (by omega) rfl, hR, Fr.refl _ _ _, VR.slE b off x y hb h0⟩
    rename_i hm
    have hm : m ≠ 0 := by simpa using hm
    split at h
    · rename_i hfit
      rw [Nat.ble_eq] at hfit
      omega
    · split at h
      case h_2 => cases h
      rename_i B hB
      split at h
      case isFalse => cases h
      rename_i hck
      have hck1 : B.stride = i.size := by simpa [Nat.beq_eq] using hck
      split at h
      case h_2 => cases h
      rename_i H1 hgr
      cases h
      exact agrow_new ht hi hz hzs hR hB hck1 hs hn hbnd.1 hbnd.2 hgr (by omega) (.inl ⟨rfl, by simp [Builtin.firstCells, loadCells, loadCellsFrom]⟩)
  | _ => simp [aappend] at h
end
end Go.Proofs.YtgdlpgakhhebeaaGreatDoor.Ev
end
section
set_option linter.unusedVariables false
namespace Go.Proofs.YtgdlpgakhhebeaaGreatDoor.Ev
open Go
noncomputable section

/-- The run of s' is as that which leaves v and H'. -/
def Does (P : Program) (sg : Nat → Pl) (H : ASt) (W : World) (s' : Sem Value) (v : Value) (H' : ASt) : Prop :=
  ∃ v' sg' W', s'.run P W = .ok v' W' ∧ R sg' H' W' ∧ Fr sg H W sg' H' W' ∧ VR sg' H'.next v v'

theorem cells_LR {sg : Nat → Pl} {N : Nat} {v v' : Value} (h : VR sg N v v') : LR sg N v.cells.toList v'.cells.toList := by
  cases h with
  | agg vs vs' h1 h3 => exact ⟨by simpa [Value.cells] using h1, fun i v v' a b => h3 i v v' (by simpa [Value.cells] using a) (by simpa [Value.cells] using b)⟩
  | bool b => exact LR.cons (.bool b) (LR.nil _ _)
  | int k n => exact LR.cons (.int k n) (LR.nil _ _)
  | float k n => exact LR.cons (.float k n) (LR.nil _ _)
  | complex k m n => exact LR.cons (.complex k m n) (LR.nil _ _)
  | string s => exact LR.cons (.string s) (LR.nil _ _)
  | ptrNil => exact LR.cons .ptrNil (LR.nil _ _)
  | ptr b off h => exact LR.cons (.ptr b off h) (LR.nil _ _)
  | slNil => exact LR.cons .slNil (LR.nil _ _)
  | sl b off n c c' h h0 hn hc hr => exact LR.cons (.sl b off n c c' h h0 hn hc hr) (LR.nil _ _)
  | slE b off x y h h0 => exact LR.cons (.slE b off x y h h0) (LR.nil _ _)
  | mapNil => exact LR.cons .mapNil (LR.nil _ _)
  | map b h => exact LR.cons (.map b h) (LR.nil _ _)
  | chanNil => exact LR.cons .chanNil (LR.nil _ _)
  | func fn f c f' c' hf h1 h2 h3 h4 => exact LR.cons (.func fn f c f' c' hf h1 h2 h3 h4) (LR.nil _ _)
  | yield l h => exact LR.cons (.yield l h) (LR.nil _ _)
  | nilFunc => exact LR.cons .nilFunc (LR.nil _ _)
  | iface t v v' h => exact LR.cons (.iface t v v' h) (LR.nil _ _)
  | nilIface => exact LR.cons .nilIface (LR.nil _ _)
  | tuple vs vs' h1 h3 => exact LR.cons (.tuple vs vs' h1 h3) (LR.nil _ _)
theorem agg_of {sg : Nat → Pl} {N : Nat} {l l' : List Value} (h : LR sg N l l') : VR sg N (.agg l.toArray) (.agg l'.toArray) :=
  .agg _ _ (by simpa using h.1) (fun i v v' a b => h.2 i v v' (by simpa using a) (by simpa using b))

/-- A new variable that holds v. -/
def avar (H : ASt) (elem st : Nat) (v : Value) : Option (Value × ASt) :=
  match aadd H v.cells.toList elem H.next st with
  | some H' => some (.pointer (some ⟨H.next, 0, none⟩), H')
  | none => none
theorem avar_run {P : Program} {sg : Nat → Pl} {H H' : ASt} {W : World} (hR : R sg H W) {elem st : Nat} {v v' r : Value} (hv : VR sg H.next v v') (h : avar H elem st v = some (r, H')) :
    Does P sg H W (do pure (.pointer (some (← newVar elem v')))) r H' := by
  unfold avar at h
  split at h
  case h_2 => cases h
  rename_i H1 hadd
  cases h
  have hn := hR.new hadd (C := v'.cells) (fun i u hi => by
    have := (cells_LR hv).in_front #[] i u hi
    simpa using this)
  refine ⟨.pointer (some ⟨W.heap.size, 0, none⟩), _, _, ?_, hn.1, hn.2.1, ?_⟩
  · simp [newVar, newRow, newObj, Sem.run]
  · rw [hn.2.2]
    have := VR.ptr (sg := tell sg H.next ⟨W.heap.size, 0, v'.cells.size, st⟩) (N := H.next + 1) H.next 0 (Nat.lt_succ_self _)
    rw [show tell sg H.next ⟨W.heap.size, 0, v'.cells.size, st⟩ H.next = ⟨W.heap.size, 0, v'.cells.size, st⟩ from if_pos rfl] at this
    exact this
theorem box_run {P : Program} {sg : Nat → Pl} {H H' : ASt} {W : World} (hR : R sg H W) {elem st : Nat} {v v' r : Value} (hv : VR sg H.next v v') (h : avar H elem st v = some (r, H')) :
    Does P sg H W (Instr.box elem v') r H' := avar_run hR hv h
theorem alloc_run {P : Program} {sg : Nat → Pl} {H H' : ASt} {W : World} (hR : R sg H W) {elem st : Nat} {i : TypeInfo} {z r : Value} (hi : P.info? elem = some i) (hz : i.zero = some z) (n : Nat) (hb : bare n z = true) (h : avar H elem st z = some (r, H')) :
    Does P sg H W (Instr.alloc elem true (.tuple #[])) r H' := by
  obtain ⟨v', sg', W', h1, h2⟩ := avar_run (P := P) hR (VR.of_bare (sg := sg) (N := H.next) n z hb) h
  refine ⟨v', sg', W', ?_, h2⟩
  simp [Instr.alloc, zeroValue, typeInfo, hi, hz]
  simpa using h1

/-- A load of a variable of type t: of so many cells if it is a struct or an array. -/
def aloadVar (H : ASt) (agg : Bool) (size : Nat) (b off : Nat) : Option Value :=
  bif agg then match aloads H b off size with
    | some l => some (.agg l.toArray)
    | none => none
  else aload H ⟨b, off, none⟩
def isAggD : TypeDesc → Bool
  | .struct _ | .array _ _ => true
  | _ => false
theorem load_run {P : Program} {sg : Nat → Pl} {H : ASt} {W : World} (hR : R sg H W) {t : TypeId} {d : TypeDesc} {i : TypeInfo} (hd : P.underlying t = some d) (hi : P.info? t = some i) {b off : Nat} {v : Value}
    (h : aloadVar H (isAggD d) i.size b off = some v) : Does P sg H W (Instr.loadAt t (.pointer (some ⟨(sg b).1, (sg b).2 + off, none⟩))) v H := by
  unfold aloadVar at h
  cases hg : isAggD d with
  | true =>
    rw [hg, cond_true] at h
    split at h
    case h_2 => cases h
    rename_i l hl
    cases h
    obtain ⟨h1, l', h2, h3, _⟩ := aloads_run (P := P) hR hl
    refine ⟨.agg l'.toArray, sg, W, ?_, hR, Fr.refl _ _ _, agg_of h3⟩
    cases d <;> simp [isAggD] at hg <;> simp [Instr.loadAt, Instr.sureAddr, loadVar, isAgg, run_underlying hd, sizeOf, typeInfo, hi, h2]
  | false =>
    rw [hg, cond_false] at h
    obtain ⟨v', h1, h2, _⟩ := aload_cell hR (a := ⟨b, off, none⟩) rfl h
    refine ⟨v', sg, W, ?_, hR, Fr.refl _ _ _, h2⟩
    cases d <;> simp [isAggD] at hg <;> simp [Instr.loadAt, Instr.sureAddr, loadVar, isAgg, run_underlying hd, load, Sem.run, h1]
theorem store_run {P : Program} {sg : Nat → Pl} {H H' : ASt} {W : World} (hR : R sg H W) {t : TypeId} {i : TypeInfo} (hi : P.info? t = some i) {b off : Nat} {v v' : Value} (hv : VR sg H.next v v') (hs : v.cells.size = i.size)
    (h : astores b off v.cells.toList H = some H') : ∃ W', (Instr.storeAt t (.pointer (some ⟨(sg b).1, (sg b).2 + off, none⟩)) v').run P W = .ok () W' ∧ R sg H' W' ∧ Fr sg H W sg H' W' ∧ H'.next = H.next := by
  have hl := cells_LR hv
  obtain ⟨W', h1, h2, h3, h4⟩ := astores_run (P := P) v.cells.toList v'.cells.toList b off 0 ((sg b).2 + off) hR hl h (by omega)
  refine ⟨W', ?_, h2, h3, h4⟩
  have hs' : v'.cells.size = i.size := by have := hl.1; simp only [Array.length_toList] at this; omega
  simp [Instr.storeAt, Instr.sureAddr, storeVar, sizeOf, typeInfo, hi, hs', h1]

theorem ptr_add {sg : Nat → Pl} {N b off k : Nat} (hb : b < N) : VR sg N (.pointer (some ⟨b, off + k, none⟩)) (.pointer (some ⟨(sg b).1, (sg b).2 + off + k, none⟩)) := by
  rw [Nat.add_assoc]; exact VR.ptr b (off + k) hb
theorem field_run {P : Program} {sg : Nat → Pl} {H : ASt} {W : World} (hR : R sg H W) {t : TypeId} {fs : Array Field} {fd : Field} {i : TypeInfo} {f : Nat} (hd : P.underlying t = some (.struct fs)) (hf : fs[f]? = some fd) (hi : P.info? fd.type = some i) (hs : i.size ≠ 0)
    {b off : Nat} (hb : b < H.next) : Does P sg H W (Instr.fieldAt t (.pointer (some ⟨(sg b).1, (sg b).2 + off, none⟩)) f) (.pointer (some ⟨b, off + fd.offset, none⟩)) H := by
  refine ⟨_, sg, W, ?_, hR, Fr.refl _ _ _, ptr_add hb⟩
  simp [Instr.fieldAt, run_underlying hd, hf, Instr.sureAddr, fieldPlace, sizeOf, typeInfo, hi, hs, add_eq]
/-- An element's place: of an array .. -/
theorem index_array_run {P : Program} {sg : Nat → Pl} {H : ASt} {W : World} (hR : R sg H W) {t e : TypeId} {n : Nat} {i : TypeInfo} (hd : P.underlying t = some (.array n e)) (hi : P.info? e = some i) {b off : Nat} (hb : b < H.next) {k : IntKind} {j : Nat} (hj : j < n) :
    Does P sg H W (Instr.indexAt t (.pointer (some ⟨(sg b).1, (sg b).2 + off, none⟩)) (.int k j)) (.pointer (some ⟨b, off + j * i.size, none⟩)) H := by
  refine ⟨_, sg, W, ?_, hR, Fr.refl _ _ _, ptr_add hb⟩
  simp [Instr.indexAt, asIntOf, run_underlying hd, Instr.sureAddr, sizeOf, typeInfo, hi, hj, add_eq]
/-- .. of a slice. -/
theorem index_slice_run {P : Program} {sg : Nat → Pl} {H : ASt} {W : World} (hR : R sg H W) {t e : TypeId} {i : TypeInfo} (hd : P.underlying t = some (.slice e)) (hi : P.info? e = some i) {b off n c : Nat} {v' : Value} (hv : VR sg H.next (.slice (some ⟨b, off, none⟩) n c) v') {k : IntKind} {j : Nat} (hj : j < n) :
    Does P sg H W (Instr.indexAt t v' (.int k j)) (.pointer (some ⟨b, off + j * i.size, none⟩)) H := by
  cases hv with
  | sl b off n c c' hb h0 hn hc hr =>
    refine ⟨_, sg, W, ?_, hR, Fr.refl _ _ _, ptr_add hb⟩
    simp [Instr.indexAt, asIntOf, run_underlying hd, sizeOf, typeInfo, hi, hj, add_eq]
  | slE b off x y hb h0 => omega

/-- A slice of a slice: from l to h; the room is that of the slice, if no other is said. -/
theorem slice_run {P : Program} {sg : Nat → Pl} {H : ASt} {W : World} (hR : R sg H W) {t e : TypeId} {i : TypeInfo} (hd : P.underlying t = some (.slice e)) (hi : P.info? e = some i) {b off n c l h : Nat} {v' : Value} (hv : VR sg H.next (.slice (some ⟨b, off, none⟩) n c) v')
    {lo hi' : Option Value} (hlo : lo = none ∧ l = 0 ∨ ∃ k, lo = some (.int k l)) (hhi : hi' = none ∧ h = n ∨ ∃ k, hi' = some (.int k h)) (hlh : l ≤ h) (hhc : h ≤ c)
    (hB : ∃ B, H.heap.get b = some (.cells B) ∧ B.stride = i.size) : Does P sg H W (Instr.sliceAt t v' lo hi' none) (.slice (some ⟨b, off + l * i.size, none⟩) (h - l) (c - l)) H := by
  cases hv with
  | sl b off n c c' hb h0 hn hc hr =>
    have hrun : (Instr.sliceAt t (.slice (some ⟨(sg b).1, (sg b).2 + off, none⟩) n c') lo hi' none).run P W = .ok (.slice (some (if c' = l then ⟨(sg b).1, (sg b).2 + off, none⟩ else ⟨(sg b).1, (sg b).2 + off + l * i.size, none⟩)) (h - l) (c' - l)) W := by
      have k1 : ¬ (c' < h) := by omega
      have k2 : ¬ (h < l) := by omega
      have k3 : h ≤ c' := by omega
      rcases hlo with ⟨rfl, rfl⟩ | ⟨k, rfl⟩ <;> rcases hhi with ⟨rfl, rfl⟩ | ⟨k', rfl⟩ <;>
        (simp [Instr.sliceAt, Instr.slice, Instr.sliceBounds, Instr.sliceBound, asIntOf, run_underlying hd, sizeOf, typeInfo, hi, k3, hlh, add_eq]
         try (split <;> simp_all))
    refine ⟨_, sg, W, hrun, hR, Fr.refl _ _ _, ?_⟩
    by_cases hcl : c' = l
    · have e1 : h - l = 0 := by omega
      have e2 : c - l = 0 := by omega
      have e3 : c' - l = 0 := by omega
      rw [if_pos hcl, e1, e2, e3]
      exact .slE b _ _ _ hb h0
    · rw [if_neg hcl, Nat.add_assoc (sg b).2]
      refine VR.sl b (off + l * i.size) (h - l) (c - l) (c' - l) hb h0 (by omega) (by omega) ?_
      rcases hr with e | e
      · exact .inl (by rw [e])
      · obtain ⟨B, hB, hBs⟩ := hB
        obtain ⟨C, hC, hCs, hCt⟩ := hR.room b B hB
        refine .inr ?_
        rw [← hCt, hBs] at e ⊢
        rw [Nat.sub_mul]
        have : l * i.size ≤ c' * i.size := Nat.mul_le_mul_right _ (by omega)
        omega
  | slE b off x y hb h0 =>
    have e1 : h = 0 := by omega
    have e2 : l = 0 := by omega
    subst e1; subst e2
    have hrun : (Instr.sliceAt t (.slice (some ⟨x, y, none⟩) 0 0) lo hi' none).run P W = .ok (.slice (some ⟨x, y, none⟩) 0 0) W := by
      rcases hlo with ⟨rfl, _⟩ | ⟨k, rfl⟩ <;> rcases hhi with ⟨rfl, _⟩ | ⟨k', rfl⟩ <;>
        simp [Instr.sliceAt, Instr.slice, Instr.sliceBounds, Instr.sliceBound, asIntOf, run_underlying hd, sizeOf, typeInfo, hi]
    exact ⟨_, sg, W, hrun, hR, Fr.refl _ _ _, .slE b _ x y hb h0⟩
/-- A slice of an array that lies at a place. -/
theorem slice_array_run {P : Program} {sg : Nat → Pl} {H : ASt} {W : World} (hR : R sg H W) {t e : TypeId} {i : TypeInfo} {n : Nat} (hd : P.underlying t = some (.array n e)) (hi : P.info? e = some i) {b off l h : Nat} (hb : b < H.next) (h0 : 0 < b)
    {lo hi' : Option Value} (hlo : lo = none ∧ l = 0 ∨ ∃ k, lo = some (.int k l)) (hhi : hi' = none ∧ h = n ∨ ∃ k, hi' = some (.int k h)) (hlh : l ≤ h) (hhn : h ≤ n) :
    Does P sg H W (Instr.sliceAt t (.pointer (some ⟨(sg b).1, (sg b).2 + off, none⟩)) lo hi' none) (.slice (some ⟨b, (if n = l then off else off + l * i.size), none⟩) (h - l) (n - l)) H := by
  have hrun : (Instr.sliceAt t (.pointer (some ⟨(sg b).1, (sg b).2 + off, none⟩)) lo hi' none).run P W = .ok (.slice (some (if n = l then ⟨(sg b).1, (sg b).2 + off, none⟩ else ⟨(sg b).1, (sg b).2 + off + l * i.size, none⟩)) (h - l) (n - l)) W := by
    rcases hlo with ⟨rfl, rfl⟩ | ⟨k, rfl⟩ <;> rcases hhi with ⟨rfl, rfl⟩ | ⟨k', rfl⟩ <;>
      (simp [Instr.sliceAt, Instr.sureAddr, Instr.sliceBounds, Instr.sliceBound, asIntOf, run_underlying hd, sizeOf, typeInfo, hi, hhn, hlh, add_eq]
       try (split <;> simp_all))
  refine ⟨_, sg, W, hrun, hR, Fr.refl _ _ _, ?_⟩
  by_cases hnl : n = l
  · rw [if_pos hnl, if_pos hnl]
    exact VR.sl b off _ _ _ hb h0 (by omega) (Nat.le_refl _) (.inl rfl)
  · rw [if_neg hnl, if_neg hnl, Nat.add_assoc (sg b).2]
    exact VR.sl b _ _ _ _ hb h0 (by omega) (Nat.le_refl _) (.inl rfl)
end
end Go.Proofs.YtgdlpgakhhebeaaGreatDoor.Ev
end
section
set_option linter.unusedVariables false
namespace Go.Proofs.YtgdlpgakhhebeaaGreatDoor.Ev
open Go
noncomputable section

/-- Arrays of values. -/
def AR (sg : Nat → Pl) (N : Nat) (a a' : Array Value) : Prop := a.size = a'.size ∧ ∀ (i : Nat) (v v' : Value), a[i]? = some v → a'[i]? = some v' → VR sg N v v'
theorem AR.set {sg : Nat → Pl} {N : Nat} {a a' : Array Value} (h : AR sg N a a') (i : Nat) {v v' : Value} (hv : VR sg N v v') : AR sg N (a.setIfInBounds i v) (a'.setIfInBounds i v') := by
  refine ⟨by simp [h.1], fun j u u' q q' => ?_⟩
  rw [Array.getElem?_setIfInBounds] at q q'
  by_cases hj : i = j
  · subst hj
    by_cases hs : i < a.size
    · have hs' : i < a'.size := by rw [← h.1]; exact hs
      simp [hs] at q
      simp [hs'] at q'
      subst q; subst q'
      exact hv
    · simp [hs] at q
  · rw [if_neg hj] at q q'
    exact h.2 j u u' q q'
theorem AR.fold {sg : Nat → Pl} {N : Nat} (off : Nat) : ∀ (l l' : List Value) (k : Nat) (a a' : Array Value), LR sg N l l' → AR sg N a a' →
    AR sg N ((l.zipIdx k).foldl (fun (cs : Array Value) (p : Value × Nat) => cs.setIfInBounds (off + p.2) p.1) a) ((l'.zipIdx k).foldl (fun (cs : Array Value) (p : Value × Nat) => cs.setIfInBounds (off + p.2) p.1) a')
  | [], l', k, a, a', hl, h => by
    cases l' with
    | nil => exact h
    | cons v l => have := hl.1; simp at this
  | v :: l, l', k, a, a', hl, h => by
    cases l' with
    | nil => have := hl.1; simp at this
    | cons v' l' =>
      rw [List.zipIdx_cons, List.zipIdx_cons, List.foldl_cons, List.foldl_cons]
      exact AR.fold off l l' (k + 1) _ _ ⟨by have := hl.1; simpa using this, fun j u u' a c => hl.2 (j + 1) u u' a c⟩ (h.set _ (hl.2 0 v v' rfl rfl))
/-- Parts of a literal. -/
def PR (sg : Nat → Pl) (N : Nat) : List (Nat × Value) → List (Nat × Value) → Prop
  | [], [] => True
  | (i, v) :: l, (j, v') :: l' => i = j ∧ VR sg N v v' ∧ PR sg N l l'
  | _, _ => False
theorem fold_eq (off : Nat) (x : Array Value) (A : Array Value) : x.zipIdx.foldl (fun cs (c, j) => cs.setIfInBounds (off + j) c) A = (x.toList.zipIdx 0).foldl (fun (cs : Array Value) (p : Value × Nat) => cs.setIfInBounds (off + p.2) p.1) A := by
  rw [← Array.foldl_toList, Array.toList_zipIdx]
theorem fill_AR {sg : Nat → Pl} {N : Nat} (place : Nat → Option (Nat × Nat)) : ∀ (ps ps' : List (Nat × Value)) (a a' cs : Array Value), PR sg N ps ps' → AR sg N a a' → Instr.fill place a ps = some cs → ∃ cs', Instr.fill place a' ps' = some cs' ∧ AR sg N cs cs'
  | [], ps', a, a', cs, hp, ha, h => by
    cases ps' with
    | nil => cases h; exact ⟨a', rfl, ha⟩
    | cons p l => exact hp.elim
  | (i, v) :: ps, ps', a, a', cs, hp, ha, h => by
    cases ps' with
    | nil => exact hp.elim
    | cons p l =>
      obtain ⟨j, v'⟩ := p
      obtain ⟨rfl, hv, hps⟩ := hp
      unfold Instr.fill at h ⊢
      split at h
      · cases h
      · rename_i off size hpl
        have hc := cells_LR hv
        have hs : v.cells.size = v'.cells.size := by have := hc.1; simpa using this
        split at h
        · cases h
        · rename_i hcond
          have hfold := AR.fold (sg := sg) (N := N) off v.cells.toList v'.cells.toList 0 a a' hc ha
          rw [← hs, ← ha.1, if_neg hcond]
          refine fill_AR place ps l _ _ cs hps ?_ h
          rw [fold_eq, fold_eq]
          exact hfold

/-- A new row and the slice upon it. -/
def arow (H : ASt) (C : Array Value) (n c elem st : Nat) : Option (Value × ASt) :=
  match aadd H C.toList elem H.next st with
  | some H' => some (.slice (some ⟨H.next, 0, none⟩) n c, H')
  | none => none
theorem AR.bare {sg : Nat → Pl} {N n : Nat} {a : Array Value} (h : a.toList.all (bare n) = true) : AR sg N a a :=
  ⟨rfl, fun i v v' q q' => by
    rw [q] at q'
    cases q'
    rw [List.all_eq_true] at h
    obtain ⟨hi, rfl⟩ := Array.getElem?_eq_some_iff.1 q
    exact VR.of_bare n _ (h _ (Array.getElem_mem_toList hi))⟩
/-- Zero cells, so many. -/
def zeros (z : Value) (n : Nat) : Array Value := (Array.range n).map (z.cells[· % z.cells.size]!)
theorem extract_run {P : Program} {sg : Nat → Pl} {H : ASt} {W : World} (hR : R sg H W) {vs : Array Value} {v v' : Value} {j : Nat} (hv : VR sg H.next (.tuple vs) v') (h : vs[j]? = some v) : Does P sg H W (Instr.extract v' j) v H := by
  cases hv with
  | tuple vs vs' h1 h3 =>
    have hj : j < vs'.size := by rw [← h1]; exact (Array.getElem?_eq_some_iff.1 h).1
    refine ⟨vs'[j], sg, W, ?_, hR, Fr.refl _ _ _, h3 j v _ h (Array.getElem?_eq_getElem hj)⟩
    simp [Instr.extract, Array.getElem?_eq_getElem hj]
/-- A part of an aggregate's cells. -/
def apart (agg : Bool) (cs : Array Value) (off size : Nat) : Option Value := bif agg then some (.agg (cs.extract off (off + size))) else cs[off]?
theorem part_run {P : Program} {sg : Nat → Pl} {N : Nat} {W : World} {t : TypeId} {d : TypeDesc} {i : TypeInfo} (hd : P.underlying t = some d) (hi : P.info? t = some i) {cs cs' : Array Value} (hc : AR sg N cs cs') {off : Nat} {v : Value}
    (h : apart (isAggD d) cs off i.size = some v) : ∃ v', (part t cs' off).run P W = .ok v' W ∧ VR sg N v v' := by
  unfold apart at h
  cases hg : isAggD d with
  | true =>
    rw [hg, cond_true] at h
    cases h
    refine ⟨.agg (cs'.extract off (off + i.size)), ?_, .agg _ _ (by simp [hc.1]) (fun j u u' a b => ?_)⟩
    · cases d <;> simp [isAggD] at hg <;> simp [part, isAgg, run_underlying hd, sizeOf, typeInfo, hi]
    · rw [Array.getElem?_extract] at a b
      rw [← hc.1] at b
      split at a
      · rename_i hh
        rw [if_pos hh] at b
        exact hc.2 _ u u' a b
      · cases a
  | false =>
    rw [hg, cond_false] at h
    have ho : off < cs'.size := by rw [← hc.1]; exact (Array.getElem?_eq_some_iff.1 h).1
    refine ⟨cs'[off], ?_, hc.2 off v _ h (Array.getElem?_eq_getElem ho)⟩
    cases d <;> simp [isAggD] at hg <;> simp [part, isAgg, run_underlying hd, Array.getElem?_eq_getElem ho]
end
end Go.Proofs.YtgdlpgakhhebeaaGreatDoor.Ev
end
