/- Part 29 of the proof of TopWire: Evf, Evg. -/
import Derived.Laws.IdiomStrings
import Derived.Laws.Strings
import Derived.Test.YtgdlpgakhhebeaaGreatDoorMg28
section
set_option linter.unusedVariables false
namespace Go.Proofs.YtgdlpgakhhebeaaGreatDoor.Ev
open Go
noncomputable section
section
variable {P : Program} {sg : Nat → Pl} {H : ASt} {W : World}

/-! ### append, copy, len, clear -/
theorem bytesCells_eq (s : ByteArray) : bytesCells s = byteCells s := rfl
theorem bytes_length (s : ByteArray) : s.data.toList.length = s.size := by rw [Array.length_toList]; rfl
/-- What an argument yields that is appended. -/
theorem src_ok (hR : R sg H W) {tx size m : Nat} {x x' : Value} {l : List Value} (hx : VR sg H.next x x') (h : asrcD size x H (P.underlying tx) = some (m, l)) : ∃ l', Src P size tx x' m l' W ∧ LR sg H.next l l' := by
  unfold asrcD at h
  split at h
  · rename_i e' hk
    unfold srcS at h
    split at h
    · cases h
      cases hx.nilSl
      exact ⟨[], Src.ofNil W hk 0, LR.nil _ _⟩
    · rename_i b o n c
      simp only [Option.ob_eq, Option.bind_eq_some_iff] at h
      obtain ⟨l0, h1, h2⟩ := h
      cases hc : l0.all oneCell with
      | false => rw [hc] at h2; cases h2
      | true =>
        rw [hc, cond_true] at h2
        cases h2
        obtain ⟨q1, l', q2, q3, q4⟩ := aloads_run (P := P) hR h1
        have hone : ∀ u ∈ l', u.oneCell' = true := fun u hu => by
          obtain ⟨j, hj⟩ := List.mem_iff_getElem?.1 hu
          have hjl : j < l.length := by rw [q3.1]; exact (List.getElem?_eq_some_iff.1 hj).1
          exact one_of' (q3.2 j _ _ (List.getElem?_eq_getElem hjl) hj) (List.all_eq_true.1 hc _ (List.getElem_mem hjl))
        cases hx with
        | sl b off n c c' hb h0 hn hcc hr =>
          refine ⟨l', Src.ofSlice W hk _ _ c' l' (by rw [← q3.1, q1]; rfl) (fun j u hj => ?_) hone, q3⟩
          unfold aloads at h1
          split at h1
          case h_2 => cases h1
          rename_i B hB
          obtain ⟨C, hC, hbr⟩ := hR.cells b B hB
          rw [add_eq, hC.cell]
          exact q4 C _ hC j u hj
        | slE b off x y hb h0 =>
          have hl0 : l = [] := List.eq_nil_of_length_eq_zero (by rw [q1]; simp)
          subst hl0
          exact ⟨[], Src.ofSlice W hk _ _ 0 [] (by simp) (fun j u hj => by cases hj) (fun u hu => by cases hu), LR.nil _ _⟩
    · cases h
  · rename_i hk
    split at h
    · rename_i s
      cases hc : Nat.beq size 1 with
      | false => rw [hc] at h; cases h
      | true =>
        rw [hc, cond_true] at h
        cases h
        have hsz : size = 1 := by simpa [Nat.beq_eq] using hc
        subst hsz
        cases hx.str_eq
        refine ⟨byteCells s, ?_, LR.bare (n := 0) (fun v hv => ?_)⟩
        · rw [bytes_length]
          exact Src.ofString W hk s
        · rw [bytesCells_eq] at hv
          obtain ⟨b, _, rfl⟩ := List.mem_map.1 hv
          rfl
    · cases h
  · cases h
theorem append_ok (hR : R sg H W) {t tx ty : TypeId} {s s' x x' v : Value} {H' : ASt} (hs : VR sg H.next s s') (hx : VR sg H.next x x') (h : aappendAt P t tx s x H = some (v, H')) :
    Does P sg H W (Builtin.append_ #[t, tx] ty #[s', x']) v H' := by
  unfold aappendAt at h
  simp only [Option.ob_eq, Option.bind_eq_some_iff] at h
  obtain ⟨e, h1, i, hi, z, hz, h2⟩ := h
  have hd := sliceElem_eq h1
  cases hc : (Nat.beq z.cells.toList.length i.size && Nat.blt 0 i.size) with
  | false => rw [hc] at h2; cases h2
  | true =>
    rw [hc, cond_true] at h2
    simp only [Bool.and_eq_true, Nat.beq_eq, Nat.blt_eq, Array.length_toList] at hc
    simp only [Option.ob_eq, Option.bind_eq_some_iff] at h2
    obtain ⟨⟨m, l⟩, h3, h4⟩ := h2
    obtain ⟨l', q1, q2⟩ := src_ok hR hx h3
    exact aappend_run hd hi hz hc.1 hc.2 hR hs q1 q2 h4
theorem lenV_eq {n : Nat} {v : Value} (h : lenV n = some v) : v = goInt n := by cases h; rfl
theorem entries_ok (hR : R sg H W) {x x' : Value} {es : List (Value × Value × Nat)} (hx : VR sg H.next x x') (h : entries H x = some es) :
    (x' = .map none ∧ es = []) ∨ ∃ r es' clock, x' = .map (some r) ∧ W.heap[r]? = some (.map es' clock) ∧ es.length = es'.size ∧ ∀ (i : Nat) (e : Value × Value × Nat) (e' : MapEntry), es[i]? = some e → es'[i]? = some e' → bare 9 e.1 = true ∧ e'.key = e.1 ∧ VR sg H.next e.2.1 e'.val ∧ e.2.2 = e'.born := by
  unfold entries at h
  split at h
  · cases h; cases hx; exact .inl ⟨rfl, rfl⟩
  · rename_i r
    simp only [Option.ob_eq, Option.bind_eq_some_iff] at h
    obtain ⟨p, h1, h2⟩ := h
    unfold mapAt at h1
    split at h1
    case h_2 => cases h1
    rename_i es0 clock hes
    cases h1
    cases h2
    obtain ⟨o', ho, hor⟩ := hR.obj r _ hes
    cases hx
    cases hor with
    | map _ es' _ e1 e2 => exact .inr ⟨_, es', clock, rfl, ho, e1, e2⟩
  · cases h
theorem len_ok (hR : R sg H W) {t ty : TypeId} {x x' v : Value} (hx : VR sg H.next x x') (h : alenD x H (P.underlying t) = some v) : Does P sg H W (Builtin.len_ #[t] ty #[x']) v H := by
  unfold alenD at h
  split at h
  · rename_i hd
    split at h
    · rename_i s
      cases lenV_eq h
      cases hx.str_eq
      refine Does.same hR (v' := goInt s.size) ?_ ?_
      · simp [Builtin.len_, run_underlying hd]
      · rw [bytes_length]; exact .int _ _
    · cases h
  · rename_i e hd
    split at h
    · rename_i a n c
      cases lenV_eq h
      refine Does.same hR (v' := goInt n) ?_ (.int _ _)
      cases hx <;> simp [Builtin.len_, run_underlying hd]
    · cases h
  · rename_i k e hd
    simp only [Option.ob_eq, Option.bind_eq_some_iff] at h
    obtain ⟨es, h1, h2⟩ := h
    cases lenV_eq h2
    rcases entries_ok hR hx h1 with ⟨rfl, rfl⟩ | ⟨r, es', clock, rfl, ho, e1, e2⟩
    · exact Does.same hR (v' := goInt 0) (by simp [Builtin.len_, run_underlying hd]) (.int _ _)
    · refine Does.same hR (v' := goInt es'.size) ?_ ?_
      · simp [Builtin.len_, run_underlying hd, getObj, Sem.run, ho]
      · rw [e1]; exact .int _ _
  · rename_i n e hd
    cases lenV_eq h
    exact Does.same hR (v' := goInt n) (by simp [Builtin.len_, run_underlying hd]) (.int _ _)
  · cases h
theorem copy_ok (hR : R sg H W) {t tx ty : TypeId} {d d' s s' v : Value} {H' : ASt} (hd : VR sg H.next d d') (hs : VR sg H.next s s') (h : acopy P t d s H = some (v, H')) :
    Does P sg H W (Builtin.copy_ #[t, tx] ty #[d', s']) v H' := by
  unfold acopy at h
  simp only [Option.ob_eq, Option.bind_eq_some_iff] at h
  obtain ⟨e, h1, k, h2, h3⟩ := h
  have hu := sliceElem_eq h1
  obtain ⟨i, hi, rfl⟩ := sizeP_eq h2
  split at h3
  case h_2 => cases h3
  rename_i b o n c
  unfold copyA at h3
  split at h3
  · rename_i b' o' m c'
    unfold copySS at h3
    simp only [Option.ob_eq, Option.bind_eq_some_iff, Nat.mul_eq] at h3
    obtain ⟨l, h4, H1, h5, r, h6, h7⟩ := h3
    cases h7
    cases lenV_eq h6
    obtain ⟨q1, l', q2, q3, q4⟩ := aloads_run (P := P) hR h4
    have hlen : (Builtin.lenOf s').run P W = .ok m W := by cases hs <;> rfl
    have hfirst : (Builtin.firstCells i.size (Nat.min m n) s').run P W = .ok l'.toArray W := by
      cases hs with
      | sl b off n c c' hb h0 hn hcc hr => exact q2
      | slE b off x y hb h0 =>
        have hl0 : l' = [] := List.eq_nil_of_length_eq_zero (by rw [← q3.1, q1]; simp)
        subst hl0
        simp [Builtin.firstCells, loadCells, loadCellsFrom]
    have hstep : ∀ (a : Option Addr) (c2 : Nat) (W1 : World), (match a with | some a => (storeCells a l').run P W | none => .ok () W) = .ok () W1 →
        (Builtin.copy_ #[t, tx] ty #[.slice a n c2, s']).run P W = .ok (goInt (Nat.min m n)) W1 := fun a c2 W1 hst => by
      cases a with
      | none => cases hst; simp [Builtin.copy_, run_underlying hu, sizeOf, typeInfo, hi, hlen, hfirst]
      | some a => simp [Builtin.copy_, run_underlying hu, sizeOf, typeInfo, hi, hlen, hfirst, hst]
    cases hd with
    | sl b off n c c' hb h0 hn hcc hr =>
      obtain ⟨W1, r1, r2, r3, r4⟩ := astores_run (P := P) l l' b o 0 ((sg b).2 + o) hR q3 h5 (by omega)
      exact ⟨_, sg, W1, hstep _ _ _ r1, r2, r3, .int _ _⟩
    | slE b off x y hb h0 =>
      have hl0 : l = [] := List.eq_nil_of_length_eq_zero (by rw [q1]; simp)
      have hl0' : l' = [] := List.eq_nil_of_length_eq_zero (by rw [← q3.1, hl0]; rfl)
      subst hl0
      subst hl0'
      obtain ⟨W1, r1, r2, r3, r4⟩ := astores_run (P := P) [] [] b o 0 ((sg b).2 + o) hR (LR.nil _ _) h5 (by omega)
      have hW1 : W1 = W := by
        simp [storeCells, Sem.run] at r1
        exact r1.symm
      subst hW1
      exact ⟨_, sg, W1, hstep _ _ _ (by rfl), r2, r3, .int _ _⟩
  · cases h3
    cases hs.nilSl
    have hmin : Nat.min 0 n = 0 := Nat.zero_min n
    refine Does.same hR (v' := goInt 0) ?_ (.int _ _)
    cases hd <;> simp [Builtin.copy_, run_underlying hu, sizeOf, typeInfo, hi, Builtin.lenOf, Builtin.firstCells, hmin, storeCells]
  · cases h3
theorem clear_ok (hR : R sg H W) {t ty : TypeId} {x x' : Value} {H' : ASt} (hx : VR sg H.next x x') (h : aclear P t x H = some H') : Does P sg H W (Builtin.clear_ #[t] ty #[x']) (.tuple #[]) H' := by
  unfold aclear at h
  simp only [Option.ob_eq, Option.bind_eq_some_iff] at h
  obtain ⟨e, h1, h2⟩ := h
  have hu := sliceElem_eq h1
  have ht : VR sg H.next (.tuple #[]) (.tuple #[]) := .tuple _ _ rfl (fun i v v' a => by simp at a)
  unfold clearIn at h2
  split at h2
  · rename_i b o n c
    cases hc : Nat.beq n 0 with
    | true =>
      rw [hc, cond_true] at h2
      cases h2
      have hn : n = 0 := by simpa [Nat.beq_eq] using hc
      subst hn
      refine Does.same hR (v' := .tuple #[]) ?_ ht
      cases hx <;> simp [Builtin.clear_, run_underlying hu]
    | false =>
      rw [hc, cond_false] at h2
      simp only [Option.ob_eq, Option.bind_eq_some_iff] at h2
      obtain ⟨zl, h3, h4⟩ := h2
      obtain ⟨i, z, hi, hz, hb, rfl⟩ := zeroL_eq h3
      have hzc : (Builtin.zeroCells z.cells n).toList = zerosL z.cells.toList n := by
        by_cases h0 : 0 < z.cells.size
        · apply List.ext_getElem?
          intro j
          rcases Nat.lt_or_ge j (n * z.cells.size) with hj | hj
          · rw [zerosL_get _ (by simpa using h0) _ _ (by simpa using hj)]
            have hm : j % z.cells.size < z.cells.size := Nat.mod_lt _ h0
            simp [Builtin.zeroCells, hj, getElem!_pos z.cells (j % z.cells.size) hm, hm]
          · rw [show (zerosL z.cells.toList n)[j]? = none from List.getElem?_eq_none (by rw [zerosL_length]; simpa using hj)]
            simp [Builtin.zeroCells, hj]
        · have hz0 : z.cells.size = 0 := by omega
          have e1 : (zerosL z.cells.toList n).length = 0 := by rw [zerosL_length]; simp [hz0]
          rw [List.eq_nil_of_length_eq_zero e1]
          simp [Builtin.zeroCells, hz0]
      have hn0 : n ≠ 0 := fun e => by subst e; cases hc
      cases hx with
      | sl b off n c c' hb0 h0 hn hcc hr =>
        obtain ⟨W1, r1, r2, r3, r4⟩ := astores_run (P := P) (zerosL z.cells.toList n) (zerosL z.cells.toList n) b o 0 ((sg b).2 + o) hR (LR.bare (n := 9) (fun v hv => bare_cells hb v (zerosL_mem n v hv))) h4 (by omega)
        refine ⟨.tuple #[], sg, W1, ?_, r2, r3, .tuple _ _ rfl (fun i v v' a => by simp at a)⟩
        rw [← hzc] at r1
        cases n with
        | zero => exact absurd rfl hn0
        | succ n => simp [Builtin.clear_, run_underlying hu, zeroValue, typeInfo, hi, hz, r1]
      | slE b off x y hb0 h0 => exact absurd rfl hn0
  · cases h2
    cases hx.nilSl
    exact Does.same hR (v' := .tuple #[]) (by simp [Builtin.clear_, run_underlying hu]) ht
  · cases h2
end
end
end Go.Proofs.YtgdlpgakhhebeaaGreatDoor.Ev
end
section
set_option linter.unusedVariables false
namespace Go.Proofs.YtgdlpgakhhebeaaGreatDoor.Ev
open Go
noncomputable section
section
variable {P : Program} {sg : Nat → Pl} {H : ASt} {W : World}

/-! ### Conversions -/
theorem isU8_eq {e : TypeId} (h : isU8 P e = true) : P.underlying e = some (.int .u8) := by
  unfold isU8 at h
  split at h
  · assumption
  · cases h
theorem convSB_ok (hR : R sg H W) {src dst e : TypeId} {s : ByteArray} {v : Value} {H' : ASt} (hs : P.underlying src = some .string) (hd : P.underlying dst = some (.slice e)) (h : convSB P H e s = some (v, H')) : Does P sg H W (convert src dst (.string s)) v H' := by
  unfold convSB at h
  cases hc : isU8 P e with
  | false => rw [hc] at h; cases h
  | true =>
    rw [hc, cond_true] at h
    have he := isU8_eq hc
    have hge := grownCap_ge W s.size 0 e
    have hsz : (Lib.bytesCells W e s).size = grownCap W s.size 0 e := by
      simp only [Lib.bytesCells, Array.size_append, Array.size_map, Array.size_replicate]
      have : s.data.size = s.size := rfl
      omega
    refine newRowL_ok hR (C' := Lib.bytesCells W e s) (c' := grownCap W s.size 0 e) (Lib.bytesWorld_at_new W e s) (fun i hi => ?_) (fun k hk => Lib.bytesWorld_at_old W e s k hk) ?_ ?_ ?_ (by rw [Lib.bytesWorld_size]; omega)
      (fun i u hu => ?_) (Nat.le_refl _) (.inr ⟨by rw [bytes_length]; exact hge, by rw [hsz]; omega⟩) (by rw [bytes_length]; exact Lib.run_convert_string_bytes W src dst e s hs hd he) h
    · simp; omega
    · simp [Lib.bytesWorld, World.freeze, World.alloc, World.drew, -World.alloc_eq, -World.drew_eq]
    · simp [Lib.bytesWorld, World.freeze, World.alloc, World.drew, -World.alloc_eq, -World.drew_eq]
    · simp [Lib.bytesWorld, World.freeze, World.alloc, World.drew, -World.alloc_eq, -World.drew_eq]
    · refine ⟨u, ?_, ?_⟩
      · have hl : i < s.data.size := by
          have := (List.getElem?_eq_some_iff.1 hu).1
          simpa [bytesCells] using this
        simp only [Lib.bytesCells]
        rw [Array.getElem?_append_left (by simpa using hl)]
        simpa [bytesCells, bytesV] using hu
      · obtain ⟨b, _, rfl⟩ := List.mem_map.1 (List.mem_of_getElem? hu)
        exact .int _ _
theorem byteOf_eq {v : Value} {b : UInt8} (h : byteOf v = some b) : v = .int .u8 (b.toNat : Int) := by
  unfold byteOf at h
  split at h
  · rename_i n
    cases hc : Nat.blt n 256 with
    | false => rw [hc] at h; cases h
    | true =>
      rw [hc, cond_true] at h
      cases h
      have hn : n < 256 := by simpa [Nat.blt_eq] using hc
      have : (UInt8.ofNat n).toNat = n := by simp [UInt8.toNat_ofNat']; omega
      rw [this]
      rfl
  · cases h
theorem byteList_eq : ∀ (l : List Value) (bs : List UInt8), byteList l = some bs → l = bs.map bytesV
  | [], bs, h => by cases h; rfl
  | v :: l, bs, h => by
    unfold byteList at h
    simp only [Option.ob_eq, Option.bind_eq_some_iff] at h
    obtain ⟨b, h1, r, h2, h3⟩ := h
    cases h3
    rw [byteOf_eq h1, byteList_eq l r h2]
    rfl
theorem convBS_ok (hR : R sg H W) {src dst e : TypeId} {x x' v : Value} {H' : ASt} (hs : P.underlying src = some (.slice e)) (hd : P.underlying dst = some .string) (hx : VR sg H.next x x') (h : convBS P H e x = some (v, H')) : Does P sg H W (convert src dst x') v H' := by
  unfold convBS at h
  split at h
  · cases hc : isU8 P e with
    | false => rw [hc] at h; cases h
    | true =>
      rw [hc, cond_true] at h
      cases h
      cases hx.nilSl
      refine Does.same hR (v' := .string .empty) ?_ (.string _)
      rw [run_convert_bytes_string W src dst e none 0 0 hs (isU8_eq hc) hd]
      simp [Conv.bytesToString]
  · rename_i b o n c
    cases hc : isU8 P e with
    | false => rw [hc] at h; cases h
    | true =>
      rw [hc, cond_true] at h
      simp only [Option.ob_eq, Option.bind_eq_some_iff] at h
      obtain ⟨l, h1, bs, h2, h3⟩ := h
      cases h3
      have hl := byteList_eq l bs h2
      obtain ⟨q1, l', q2, q3, q4⟩ := aloads_run (P := P) hR h1
      have hbn : bs.length = n := by rw [← q1, hl, List.length_map]
      have hl' : l' = l := by
        apply List.ext_getElem?
        intro j
        rcases Nat.lt_or_ge j l.length with hj | hj
        · have hj' : j < l'.length := by rw [← q3.1]; exact hj
          have := q3.2 j _ _ (List.getElem?_eq_getElem hj) (List.getElem?_eq_getElem hj')
          rw [List.getElem?_eq_getElem hj, List.getElem?_eq_getElem hj']
          congr 1
          have hb : l[j] = bytesV (bs[j]'(by rw [hbn, ← q1]; exact hj)) := by
            simp only [hl, List.getElem_map]
          rw [hb] at this ⊢
          exact this.int_eq
        · rw [List.getElem?_eq_none hj, List.getElem?_eq_none (by rw [← q3.1]; exact hj)]
      subst hl'
      cases hx with
      | sl b off n c c' hb h0 hn hcc hr =>
        refine Does.same hR (v' := .string ⟨bs.toArray⟩) ?_ (.string _)
        have := run_convert_bytes_back (P := P) W src dst e ⟨(sg b).1, (sg b).2 + o, none⟩ c' bs hs (isU8_eq hc) hd (fun j hj => by
          unfold aloads at h1
          split at h1
          case h_2 => cases h1
          rename_i B hB
          obtain ⟨C, hC, hbr⟩ := hR.cells b B hB
          rw [add_eq, hC.cell]
          have hjl : j < l'.length := by rw [q1, ← hbn]; exact hj
          rw [q4 C _ hC j _ (List.getElem?_eq_getElem hjl)]
          simp only [hl, List.getElem_map]
          rfl)
        rw [hbn] at this
        exact this
      | slE b off x y hb h0 =>
        have hb0 : bs = [] := List.eq_nil_of_length_eq_zero hbn
        subst hb0
        refine Does.same hR (v' := .string ⟨#[]⟩) ?_ (.string _)
        rw [run_convert_bytes_string W src dst e _ 0 0 hs (isU8_eq hc) hd]
        simp [Conv.bytesToString, loadCells, loadCellsFrom]
        rfl
  · cases h
theorem wrap_small (x : Int) (h0 : 0 ≤ x) (h1 : x ≤ 9223372036854775807) : IntKind.wrap .i64 x = x := by
  simp [IntKind.wrap, IntKind.bits, IntKind.signed]
  omega
theorem wrapF_eq (k : IntKind) (n : Int) : wrapF k n = k.wrap n := by
  unfold wrapF
  split
  · rename_i m
    cases hc : Nat.ble m 9223372036854775807 with
    | false => rfl
    | true =>
      have : m ≤ 9223372036854775807 := by simpa [Nat.ble_eq] using hc
      rw [cond_true]
      exact (wrap_small _ (Int.natCast_nonneg m) (by show (m : Int) ≤ _; omega)).symm
  · rename_i m
    simp only [IntKind.wrap, IntKind.bits, IntKind.signed, Bool.false_and]
    show ((m % 256 : Nat) : Int) = _
    simp
  · rename_i m
    simp only [IntKind.wrap, IntKind.bits, IntKind.signed, Bool.false_and]
    show ((m % 4294967296 : Nat) : Int) = _
    simp
  · rename_i m
    simp only [IntKind.wrap, IntKind.bits, IntKind.signed, Bool.false_and]
    show ((m % 18446744073709551616 : Nat) : Int) = _
    simp
  · rfl

/-! ### Numbers -/
theorem intLt_eq (a b : Int) : intLt a b = decide (a < b) := by
  cases a with
  | ofNat m => cases b with
    | ofNat n =>
      show Nat.blt m n = _
      rw [Bool.eq_iff_iff, Nat.blt_eq]
      simp
    | negSucc n => simp only [intLt]; symm; rw [decide_eq_false_iff_not]; simp; omega
  | negSucc m => cases b with
    | ofNat n => simp only [intLt]; symm; rw [decide_eq_true_eq]; simp; omega
    | negSucc n =>
      show Nat.blt n m = _
      rw [Bool.eq_iff_iff, Nat.blt_eq, decide_eq_true_eq]
      omega
theorem intEq_eq (a b : Int) : intEq a b = (a == b) := by
  rw [Bool.eq_iff_iff, beq_iff_eq]
  cases a with
  | ofNat m => cases b with
    | ofNat n => show Nat.beq m n = true ↔ (m : Int) = (n : Int); rw [Nat.beq_eq]; omega
    | negSucc n => simp [intEq]
  | negSucc m => cases b with
    | ofNat n => simp [intEq]
    | negSucc n => show Nat.beq m n = true ↔ _; rw [Nat.beq_eq]; simp
theorem kindEq_eq {a b : IntKind} (h : kindEq a b = true) : a = b := by cases a <;> cases b <;> first | rfl | (cases h)
theorem addI_eq (a b : Int) : addI a b = a + b := by cases a <;> cases b <;> rfl
theorem subI_eq (a b : Int) : subI a b = a - b := by
  cases a with
  | ofNat m => cases b with
    | ofNat n =>
      simp only [subI]
      cases hc : Nat.ble n m with
      | false => rfl
      | true =>
        have : n ≤ m := by simpa [Nat.ble_eq] using hc
        show ((m - n : Nat) : Int) = (m : Int) - n
        omega
    | negSucc n => rfl
  | negSucc m => cases b <;> rfl
theorem mulI_eq (a b : Int) : mulI a b = a * b := by cases a <;> cases b <;> rfl
theorem same_eq {k k' : IntKind} {r : Option Value} {v : Value} (h : same k k' r = some v) : k = k' ∧ r = some v := by
  unfold same at h
  cases hc : kindEq k k' with
  | false => rw [hc] at h; cases h
  | true => rw [hc] at h; exact ⟨kindEq_eq hc, h⟩
theorem pureV {s : Sem Value} {v : Value} (h : (match pureRun P s with | some v => constV v | none => none) = some v) : s.run P W = .ok v W ∧ bare 9 v = true := by
  split at h
  · rename_i u hu
    obtain ⟨rfl, hb⟩ := constV_eq h
    exact ⟨pureRun_run s _ hu W, hb⟩
  · cases h
theorem intOp_ok {op : BinOp} {k k' : IntKind} {a b : Int} {v : Value} (t : TypeId) (h : intOp P op k a k' b = some v) : (binOp op t (.int k a) (.int k' b)).run P W = .ok v W ∧ bare 9 v = true := by
  cases op <;> simp only [intOp] at h
  case add => obtain ⟨e, g⟩ := same_eq h; subst e; cases g; rw [wrapF_eq, addI_eq]; exact ⟨by simp [binOp, Op.intArith], rfl⟩
  case sub => obtain ⟨e, g⟩ := same_eq h; subst e; cases g; rw [wrapF_eq, subI_eq]; exact ⟨by simp [binOp, Op.intArith], rfl⟩
  case mul => obtain ⟨e, g⟩ := same_eq h; subst e; cases g; rw [wrapF_eq, mulI_eq]; exact ⟨by simp [binOp, Op.intArith], rfl⟩
  case quo => obtain ⟨e, g⟩ := same_eq h; subst e; obtain ⟨h1, h2⟩ := pureV (W := W) (s := Op.intDiv .quo k a b) g; exact ⟨by simpa [binOp] using h1, h2⟩
  case rem => obtain ⟨e, g⟩ := same_eq h; subst e; obtain ⟨h1, h2⟩ := pureV (W := W) (s := Op.intDiv .rem k a b) g; exact ⟨by simpa [binOp] using h1, h2⟩
  case and => obtain ⟨e, g⟩ := same_eq h; subst e; obtain ⟨h1, h2⟩ := pureV (W := W) (s := Op.intBits .and k a b) g; exact ⟨by simpa [binOp] using h1, h2⟩
  case or => obtain ⟨e, g⟩ := same_eq h; subst e; obtain ⟨h1, h2⟩ := pureV (W := W) (s := Op.intBits .or k a b) g; exact ⟨by simpa [binOp] using h1, h2⟩
  case xor => obtain ⟨e, g⟩ := same_eq h; subst e; obtain ⟨h1, h2⟩ := pureV (W := W) (s := Op.intBits .xor k a b) g; exact ⟨by simpa [binOp] using h1, h2⟩
  case andNot => obtain ⟨e, g⟩ := same_eq h; subst e; obtain ⟨h1, h2⟩ := pureV (W := W) (s := Op.intBits .andNot k a b) g; exact ⟨by simpa [binOp] using h1, h2⟩
  case shl => obtain ⟨h1, h2⟩ := pureV (W := W) (s := Op.shift .shl k a k' b) h; exact ⟨by simpa [binOp] using h1, h2⟩
  case shr => obtain ⟨h1, h2⟩ := pureV (W := W) (s := Op.shift .shr k a k' b) h; exact ⟨by simpa [binOp] using h1, h2⟩
  case eql => obtain ⟨e, g⟩ := same_eq h; subst e; cases g; rw [intEq_eq]; exact ⟨by simp [binOp, Op.intCmp], rfl⟩
  case neq => obtain ⟨e, g⟩ := same_eq h; subst e; cases g; rw [intEq_eq]; exact ⟨by simp [binOp, Op.intCmp, bne], rfl⟩
  case lss => obtain ⟨e, g⟩ := same_eq h; subst e; cases g; rw [intLt_eq]; exact ⟨by simp [binOp, Op.intCmp], rfl⟩
  case leq => obtain ⟨e, g⟩ := same_eq h; subst e; cases g; rw [intLt_eq]; exact ⟨by simp [binOp, Op.intCmp]; rw [Bool.eq_iff_iff]; simp, rfl⟩
  case gtr => obtain ⟨e, g⟩ := same_eq h; subst e; cases g; rw [intLt_eq]; exact ⟨by simp [binOp, Op.intCmp], rfl⟩
  case geq => obtain ⟨e, g⟩ := same_eq h; subst e; cases g; rw [intLt_eq]; exact ⟨by simp [binOp, Op.intCmp]; rw [Bool.eq_iff_iff]; simp, rfl⟩
theorem bytesEq_eq : ∀ (x y : List UInt8), bytesEq x y = (x == y)
  | [], [] => rfl
  | [], b :: y => rfl
  | a :: x, [] => rfl
  | a :: x, b :: y => by
    unfold bytesEq
    rw [bytesEq_eq x y, T.nb]
    show _ = (a == b && x == y)
    congr 1
    rw [Bool.eq_iff_iff, beq_iff_eq, beq_iff_eq]
    exact UInt8.toNat_inj
theorem bytesLt_eq : ∀ (x y : List UInt8), bytesLt x y = Op.bytesLess x y
  | [], [] => rfl
  | [], b :: y => rfl
  | a :: x, [] => rfl
  | a :: x, b :: y => by
    unfold bytesLt Op.bytesLess
    rw [bytesLt_eq x y, T.nb]
    congr 1
    · rw [Bool.eq_iff_iff, Nat.blt_eq, decide_eq_true_eq]
      exact UInt8.lt_iff_toNat_lt.symm
    · congr 1
      rw [Bool.eq_iff_iff, beq_iff_eq, beq_iff_eq]
      exact UInt8.toNat_inj
theorem strOp_ok {op : BinOp} {a b : ByteArray} {v : Value} (t : TypeId) (h : strOp op a b = some v) : (binOp op t (.string a) (.string b)).run P W = .ok v W ∧ bare 9 v = true := by
  unfold strOp at h
  split at h
  · cases h; rw [bytesEq_eq]; exact ⟨by simp [binOp, Op.stringOp, ByteArray.toList_eq], rfl⟩
  · cases h; rw [bytesEq_eq]; exact ⟨by simp [binOp, Op.stringOp, ByteArray.toList_eq], rfl⟩
  · cases hc : Nat.ble (Nat.add a.data.toList.length b.data.toList.length) 1000000 with
    | false => rw [hc] at h; cases h
    | true =>
      rw [hc, cond_true] at h
      cases h
      simp only [Nat.ble_eq, Nat.add_eq, bytes_length] at hc
      refine ⟨?_, rfl⟩
      have e : a ++ b = ⟨(a.data.toList ++ b.data.toList).toArray⟩ := by
        apply ByteArray.ext
        rw [ByteArray.data_append]
        simp
      simp only [binOp, Op.stringOp]
      rw [if_neg (by simp [IntKind.max, IntKind.signed, IntKind.bits]; omega), e]
      rfl
  · cases h; rw [bytesLt_eq]; exact ⟨by simp [binOp, Op.stringOp, ByteArray.toList_eq], rfl⟩
  · cases h; rw [bytesLt_eq, bytesEq_eq]; exact ⟨by simp [binOp, Op.stringOp, ByteArray.toList_eq], rfl⟩
  · cases h; rw [bytesLt_eq, bytesEq_eq]; exact ⟨by simp [binOp, Op.stringOp, ByteArray.toList_eq], rfl⟩
  · cases h; rw [bytesLt_eq]; exact ⟨by simp [binOp, Op.stringOp, ByteArray.toList_eq], rfl⟩
  · cases h
theorem eqGuard_run (op : BinOp) (t : TypeId) (x y : Operand) (a b : Value) (h1 : ∀ cs, a ≠ .agg cs) (h2 : a ≠ .nilIface) : (eqGuard op t x y a b).run P W = .ok () W := by
  unfold eqGuard
  cases a <;> first
    | (exact absurd rfl (h1 _))
    | (exact absurd rfl h2)
    | (cases op <;> rfl)
theorem eqBool_ok {op : BinOp} {b : Bool} {v : Value} (h : eqBool op b = some v) : (op = .eql ∧ v = .bool b) ∨ (op = .neq ∧ v = .bool (!b)) := by
  unfold eqBool at h
  split at h
  · cases h; exact .inl ⟨rfl, rfl⟩
  · cases h; exact .inr ⟨rfl, rfl⟩
  · cases h
theorem eqIn_bool {t : TypeId} (d : Nat) (hd : P.underlying t = some .bool) (a b : Bool) : (Op.equalIn (d + 1) t (.bool a) (.bool b)).run P W = .ok (a == b) W := by
  simp [Op.equalIn, run_underlying hd]
theorem boolEq_ok {op : BinOp} {t : TypeId} {a b : Bool} {v : Value} (ht : P.underlying t = some .bool) (h : eqBool op (bif a then b else !b) = some v) : (binOp op t (.bool a) (.bool b)).run P W = .ok v W := by
  have e : (bif a then b else !b) = (a == b) := by cases a <;> cases b <;> rfl
  rw [e] at h
  have he : (Op.equal t (.bool a) (.bool b)).run P W = .ok (a == b) W := eqIn_bool 9999 ht a b
  rcases eqBool_ok h with ⟨rfl, rfl⟩ | ⟨rfl, rfl⟩
  · show (Op.equal t (.bool a) (.bool b) >>= fun x => pure (Value.bool x)).run P W = _
    rw [Sem.run_bind, he]; rfl
  · show (Op.equal t (.bool a) (.bool b) >>= fun x => pure (Value.bool (!x))).run P W = _
    rw [Sem.run_bind, he]; rfl
theorem nilOf_VR {N : Nat} {v v' : Value} {b : Bool} (h : nilOf v = some b) (hv : VR sg N v v') : nilOf v' = some b := by
  cases hv <;> first | exact h | (simp only [nilOf] at h ⊢; exact h)
/-- Values of the kinds that are compared with nil. -/
def nilish : Value → Bool
  | .pointer _ | .slice _ _ _ | .map _ | .func .. | .nilFunc => true
  | _ => false
theorem bin_eql {t : TypeId} {a b : Value} (ha : nilish a = true) (hb : nilish b = true) : binOp .eql t a b = (do pure (.bool (← Op.equal t a b))) := by
  cases a <;> simp only [nilish, Bool.false_eq_true] at ha <;> cases b <;> simp only [nilish, Bool.false_eq_true] at hb <;> rfl
theorem bin_neq {t : TypeId} {a b : Value} (ha : nilish a = true) (hb : nilish b = true) : binOp .neq t a b = (do pure (.bool (!(← Op.equal t a b)))) := by
  cases a <;> simp only [nilish, Bool.false_eq_true] at ha <;> cases b <;> simp only [nilish, Bool.false_eq_true] at hb <;> rfl
theorem eqIn_ptr {t e : TypeId} (d : Nat) (hd : P.underlying t = some (.pointer e)) (a b : Option Addr) (h : a = none ∨ b = none) : (Op.equalIn (d + 1) t (.pointer a) (.pointer b)).run P W = .ok (a.isNone && b.isNone) W := by
  cases a <;> cases b <;> first | (simp [Op.equalIn, run_underlying hd]; done) | (rcases h with h | h <;> cases h)
theorem eqIn_sl {t e : TypeId} (d : Nat) (hd : P.underlying t = some (.slice e)) (a b : Option Addr) (m c m' c' : Nat) (h : a = none ∨ b = none) : (Op.equalIn (d + 1) t (.slice a m c) (.slice b m' c')).run P W = .ok (a.isNone && b.isNone) W := by
  cases a <;> cases b <;> first | (simp [Op.equalIn, run_underlying hd]; done) | (rcases h with h | h <;> cases h)
theorem eqIn_map {t k e : TypeId} (d : Nat) (hd : P.underlying t = some (.map k e)) (a b : Option Nat) (h : a = none ∨ b = none) : (Op.equalIn (d + 1) t (.map a) (.map b)).run P W = .ok (a.isNone && b.isNone) W := by
  cases a <;> cases b <;> first | (simp [Op.equalIn, run_underlying hd]; done) | (rcases h with h | h <;> cases h)
theorem eqIn_fn1 {t : TypeId} {ps rs : Array TypeId} {va : Bool} (d : Nat) (hd : P.underlying t = some (.func ps rs va)) (f : Fn) (x y : Array Value) : (Op.equalIn (d + 1) t (.func f x y) .nilFunc).run P W = .ok false W := by
  simp [Op.equalIn, run_underlying hd]
theorem eqIn_fn2 {t : TypeId} {ps rs : Array TypeId} {va : Bool} (d : Nat) (hd : P.underlying t = some (.func ps rs va)) (f : Fn) (x y : Array Value) : (Op.equalIn (d + 1) t .nilFunc (.func f x y)).run P W = .ok false W := by
  simp [Op.equalIn, run_underlying hd]
theorem eqIn_fn3 {t : TypeId} {ps rs : Array TypeId} {va : Bool} (d : Nat) (hd : P.underlying t = some (.func ps rs va)) : (Op.equalIn (d + 1) t .nilFunc .nilFunc).run P W = .ok true W := by
  simp [Op.equalIn, run_underlying hd]
/-- What comparing with nil comes to, the comparison's own run given. -/
theorem nil_fin {op : BinOp} {t : TypeId} {a b v : Value} {r : Bool} (ha : nilish a = true) (hb : nilish b = true) (he : (Op.equal t a b).run P W = .ok r W) (h : eqBool op r = some v) : (binOp op t a b).run P W = .ok v W := by
  rcases eqBool_ok h with ⟨rfl, rfl⟩ | ⟨rfl, rfl⟩
  · rw [bin_eql ha hb]
    show (Op.equal t a b >>= fun x => pure (Value.bool x)).run P W = _
    rw [Sem.run_bind, he]; rfl
  · rw [bin_neq ha hb]
    show (Op.equal t a b >>= fun x => pure (Value.bool (!x))).run P W = _
    rw [Sem.run_bind, he]; rfl
theorem nilCmp_ok {op : BinOp} {t : TypeId} {a a' b b' v : Value} {N : Nat} (ha : VR sg N a a') (hb : VR sg N b b') (h : nilCmp P op t a b = some v) : (binOp op t a' b').run P W = .ok v W ∧ bare 9 v = true ∧ (∀ cs, a' ≠ .agg cs) ∧ a' ≠ .nilIface := by
  unfold nilCmp at h
  simp only [Option.ob_eq, Option.bind_eq_some_iff] at h
  obtain ⟨na, h1, nb, h2, h3⟩ := h
  cases hc : ((na || nb) && nilKind (P.underlying t) a b) with
  | false => rw [hc] at h3; cases h3
  | true =>
    rw [hc, cond_true] at h3
    rw [Bool.and_eq_true] at hc
    obtain ⟨c1, c2⟩ := hc
    have hb9 : bare 9 v = true := by rcases eqBool_ok h3 with ⟨_, rfl⟩ | ⟨_, rfl⟩ <;> rfl
    have r1 := nilOf_VR h1 ha
    have r2 := nilOf_VR h2 hb
    have hne : ∀ {x : Value}, nilish x = true → (∀ cs, x ≠ .agg cs) ∧ x ≠ .nilIface := fun hx => ⟨fun cs e => (by rw [e] at hx; cases hx), fun e => (by rw [e] at hx; cases hx)⟩
    have fin : nilish a' = true → nilish b' = true → (Op.equal t a' b').run P W = .ok (na && nb) W → _ := fun x y z => And.intro (nil_fin x y z h3) (And.intro hb9 (hne x))
    unfold nilKind at c2
    split at c2
    · rename_i e x y hd
      cases ha <;> cases hb <;> simp only [nilOf, Option.some.injEq] at r1 r2 <;> subst r1 <;> subst r2 <;> first
        | (cases c1; done)
        | exact fin rfl rfl (eqIn_ptr 9999 hd _ _ (by simp))
    · rename_i e x1 x2 x3 y1 y2 y3 hd
      cases ha <;> cases hb <;> simp only [nilOf, Option.some.injEq] at r1 r2 <;> subst r1 <;> subst r2 <;> first
        | (cases c1; done)
        | exact fin rfl rfl (eqIn_sl 9999 hd _ _ _ _ _ _ (by simp))
    · rename_i e1 e2 x y hd
      cases ha <;> cases hb <;> simp only [nilOf, Option.some.injEq] at r1 r2 <;> subst r1 <;> subst r2 <;> first
        | (cases c1; done)
        | exact fin rfl rfl (eqIn_map 9999 hd _ _ (by simp))
    · rename_i hd
      cases ha <;> cases hb <;> simp only [nilOf, Option.some.injEq] at r1 r2 <;> subst r1 <;> subst r2 <;> exact fin rfl rfl (eqIn_fn1 9999 hd _ _ _)
    · rename_i hd
      cases ha <;> cases hb <;> simp only [nilOf, Option.some.injEq] at r1 r2 <;> subst r1 <;> subst r2 <;> exact fin rfl rfl (eqIn_fn2 9999 hd _ _ _)
    · rename_i hd
      cases ha <;> cases hb <;> simp only [nilOf, Option.some.injEq] at r1 r2 <;> subst r1 <;> subst r2 <;> exact fin rfl rfl (eqIn_fn3 9999 hd)
    · cases c2
end
end
end Go.Proofs.YtgdlpgakhhebeaaGreatDoor.Ev
end
