/- One by one segments are those that Feed tells, and a loop may end at any: ScanEach answers true for all inputs. -/
import Derived.Test.YtmkhhnhoodneeaaCut
import Derived.Test.YtmkhhnhoodneeaaHoist
set_option linter.unusedVariables false
set_option linter.unusedSimpArgs false
namespace Go.Proofs.Ytmkhhnhoodneeaa.P
open Go.RowKit Go.Proofs.YtmkhhnhoodneeaaW.PrintWords Go.Proofs.YtmkhhnhoodneeaaW.PrintMore Go.Proofs.Ytmkhhnhoodneeaa
attribute [local go_sem] max2_int min2_int max_two min_two max_three min_three max_four min_four
attribute [local go_sem] Oper.semAt_some
theorem eql_nil' (f : Fn) (fi ca : Array Value) (w : World) : (binOp .eql 25 (.func f fi ca) .nilFunc).run Try.prog w = .ok (.bool false) w := by
  kernel_rfl
attribute [local go_sem] eql_nil'

theorem SegRow.retype {base : Nat} {W : World} {T T' : Nat → Prop} {v : Value} {L : List P.S39} (h : SegRow base W T v L) (h1 : ∀ b, T' b → ∃ cs t, W.heap[b]? = some (.cells cs t (0, 0)) ∧ t ≠ 39 ∧ t ≠ 5) : SegRow base W T' v L := by
  obtain ⟨h0, rows, hl, hR, hf⟩ := h
  refine ⟨fun b hb ht => ?_, rows, hl, hR, fun j s hj => ?_⟩
  · obtain ⟨c, hc⟩ := Kd.R_typed hR b hb
    obtain ⟨cs, t, h3, h4, h5⟩ := h1 b ht
    rw [hc] at h3; cases h3; exact h4 rfl
  · obtain ⟨A, q1, q2⟩ := hf j s hj
    refine ⟨A, q1, Kd.F_mono q2 (fun k hk => ⟨hk.1, fun h => ?_⟩)⟩
    obtain ⟨⟨c, hc⟩, _⟩ := hk
    obtain ⟨cs, t, h3, h4, h5⟩ := h1 k h
    rw [hc] at h3; cases h3; exact h5 rfl
theorem kw {k : Nat} (h : k < 1000000) : wrap64 ((k : Int) + 1) = ((k + 1 : Nat) : Int) := by unfold wrap64; omega
theorem kw' {k : Nat} (h : k < 1000000) : IntKind.i64.wrap ((k : Int) + 1) = (k : Int) + 1 := by
  unfold IntKind.wrap; simp [IntKind.signed, IntKind.bits]; omega
theorem kw2 {k : Nat} (h : k < 1000000) : wrap64 ((k : Int) + 1) = (k : Int) + 1 := by unfold wrap64; omega
theorem kc {k c : Nat} (h : k < c) : (0 ≤ (k : Int) + 1 ∧ (k : Int) + 1 ≤ (c : Int)) = True := eq_true ⟨by omega, by omega⟩
theorem add_at (g k : Nat) : ((⟨g, 0, none⟩ : Addr).add k) = ⟨g, k, none⟩ := by unfold Addr.add; split <;> simp_all
theorem seg_one {W : World} {g : Nat} {B : Option Addr} {s : P.S39} (h : B4 W g (.slice B s.f0.length s.f0.length) (.bool s.f1) (.int .i64 s.f2) (.int .u64 s.f3)) (hB : (Kd.int .u8).C W B s.f0.length s.f0) : Kd.C P.k39 W (some ⟨g, 0, none⟩) [s].length [s] := by
  refine ⟨rfl, by simp, fun _ => ⟨_, rfl, fun j p hj => ?_⟩⟩
  cases j with
  | succ j => simp at hj
  | zero =>
    have : s = p := by simpa using hj
    subst this
    refine ⟨segC B s, rfl, P.k39_mk W s (Nat.le_refl _) hB, fun i u hu => ?_⟩
    rw [add_at]
    obtain ⟨x0, x1, x2, x3⟩ := h.c
    match i, hu with
    | 0, hu => cases hu; exact x0
    | 1, hu => cases hu; exact x1
    | 2, hu => cases hu; exact x2
    | 3, hu => cases hu; exact x3
    | i + 4, hu => simp [segC] at hu
theorem u64w {x y : Int} {n : Nat} (h : 0 ≤ x ∧ x + y + 1 ≤ ((0 + n : Nat) : Int) ∧ 0 < y) (hn : n ≤ 600) : IntKind.u64.wrap y = y ∧ IntKind.u64.wrap (x + y) = x + y ∧ IntKind.u64.wrap (x + y + 1) = x + y + 1 :=
  ⟨u64_id (by omega) (by omega), u64_id (by omega) (by omega), u64_id (by omega) (by omega)⟩
theorem piece_if {α : Type} {d : Kd α} {W : World} {ad : Addr} {n e cap : Nat} {xs : List α} (h : d.C W (some ad) n xs) (he : e ≤ n) (hc : n ≤ cap) : d.C W (if cap = e then some ad else some (ad.add (e * d.sz))) (n - e) (xs.drop e) := by
  have hl := h.1
  by_cases hx : cap = e
  · rw [if_pos hx]
    refine ⟨by simp; omega, by have := h.2.1; omega, fun hp => by omega⟩
  · rw [if_neg hx]
    have := C_piece' h e (n - e) (by omega)
    rwa [List.take_of_length_le (by simp; omega)] at this
theorem nlt (x n : Nat) (h : n + 5 ≤ x) : ¬ ((⟨x + 1, 0, none⟩ : Addr).block < n) := by simp; omega
theorem nne (x n : Nat) (h : n + 5 ≤ x) : ¬ ((⟨x + 1, 0, none⟩ : Addr).block = n + 2) := by simp; omega
theorem take_one {L : List P.S39} {k : Nat} {s : P.S39} (h : L[k]? = some s) : (L.drop k).take 1 = [s] := by
  obtain ⟨hlt, rfl⟩ := List.getElem?_eq_some_iff.1 h
  rw [List.drop_eq_getElem_cons hlt]; rfl
/-- Between two rounds: what lay at Y lies, but for the scanner and the count. -/
def EchI (Y : World) (g m : Nat) (stop : Int) (k : Nat) (T : Nat → Prop) (W : World) : Prop :=
  (∀ b, T b → b = g ∨ Y.heap.size ≤ b) ∧ Stab (fun b => b = g ∨ b = m) Y.heap.size Y W ∧ Boxed W m 3 (.int .i64 (k : Int)) ∧ ∀ j : Nat, j < k → (j : Int) ≠ stop

theorem EchI.step {Y W W' : World} {g m k : Nat} {stop : Int} {T T' : Nat → Prop} (h : EchI Y g m stop k T W) (hs : Stab T Y.heap.size W W') (hT' : ∀ b, T' b → T b ∨ W.heap.size ≤ b) (hm : m ≠ g) (hmY : m < Y.heap.size) : EchI Y g m stop k T' W' := by
  obtain ⟨h1, h2, h3, h4⟩ := h
  refine ⟨fun b hb => ?_, h2.two hs h1, boxed_stab h3 hs (fun h => ?_), h4⟩
  · rcases hT' b hb with h | h
    · exact h1 b h
    · have := h2.size; exact .inr (by omega)
  · rcases h1 _ h with h | h <;> omega
theorem ech_ret {w W : World} {D : Nat} {tmps : Array Value} {b0 : Value} (hR : Boxed W (w.heap.size + 1) 4 b0) (hb : Below w.heap.size w W) (hd : W.heap[D]? = some (.deferred (some []))) (hD : w.heap.size ≤ D) (h4 : tmps[4]? = some (.pointer (some ⟨w.heap.size + 1, 0, none⟩))) :
    bodyPostM Fence.wide 5 Try.prog Try.f5 (fun e w' => e = .returned (.bool true) ∧ Below w.heap.size w w') .ret { tmps := tmps, defers := [{ target := .collected D, args := #[] }] } (W.setCell ⟨w.heap.size + 1, 0, none⟩ (.bool true)) := by
  have hR2 := hR.set (.bool true)
  have hb2 : Below w.heap.size w (W.setCell ⟨w.heap.size + 1, 0, none⟩ (.bool true)) := hb.setCell (p := ⟨w.heap.size + 1, 0, none⟩) (by simp) _
  have hd2 : (W.setCell ⟨w.heap.size + 1, 0, none⟩ (.bool true)).heap[D]? = some (.deferred (some [])) := Books.setCell _ _ _ _ _ hd rfl
  generalize W.setCell ⟨w.heap.size + 1, 0, none⟩ (.bool true) = V at *
  have st : Stab (fun _ => False) w.heap.size V (V.putObj D (.deferred none)) := stab_shut hd2 hD
  have hcb := st.cell hR2.cell (fun h => h)
  refine marks_ret (v := .bool true) ?_ rfl hd2 ⟨rfl, st.below hb2 (Nat.le_refl _) hb2.size (fun _ _ h => h)⟩
  simp [results, Try.results5, h4, go_sem, hcb]
set_option maxRecDepth 100000 in
set_option maxHeartbeats 4000000 in
theorem cuneiformlaw09_ScanEach.walk (a0 : Option Addr) (len0 cap0 : Nat) (z0 : List Int) (a1 : Int) (w : World) (w0 : (a0 = none ∧ len0 = 0 ∧ cap0 = 0 ∧ z0 = []) ∨ ∃ x, a0 = some x ∧ len0 ≤ cap0 ∧ cap0 ≤ maxLen ∧ z0.length = cap0 ∧ (∀ i, i < z0.length → w.cell? (x.add i) = some (.int .u8 (z0.getD i 0))) ∧ ∀ n ∈ z0, (Lit.int .u8 n).wf = true) (y0 : len0 * 1 ≤ 140737488351232) :
    Calls Try.prog 5 #[.slice a0 len0 cap0, .int .i64 a1] w fun e w' => e = .returned (.bool true) ∧ Below w.heap.size w w' := by
  obtain ⟨l0, rfl, hr0, hm0, hw0, hc0⟩ := ReadsInt.ofRowC w0
  have C0 : (Kd.int .u8).C w a0 l0.length l0 := Kd.C_of_reads (d := (0 : Int)) (h1 := fun _ => rfl) hr0
  have cut : (Kd.int .u8).C w a0 (l0.take 600).length (l0.take 600) := by
    rcases Nat.le_total l0.length 600 with q | q
    · rw [List.take_of_length_le q]; exact C0
    · have := C_take (m := 600) C0 q; rwa [List.length_take, Nat.min_eq_left q]
  have hm0' : (if (600 : Int) < (l0.length : Int) then (600 : Int) else (l0.length : Int)) = ((l0.take 600).length : Int) := by rw [List.length_take]; split <;> omega
  have hla : (l0.take 600).length ≤ 600 := by simp; omega
  have hca : (l0.take 600).length ≤ cap0 := by simp; omega
  have hcl : ((l0.take 600).length ≤ l0.length) = True := eq_true (by simp; omega)
  have hcc : ((l0.take 600).length ≤ cap0) = True := eq_true hca
  generalize l0.take 600 = la at *
  have HD := Lib.hid cut
  clear w0 hr0 hw0 hm0 C0 cut
  refine (callsIn_wide (n := 5)).1 (callsIn_of_wp_marks Try.func5 rfl trivial ?_ rfl)
  simp only [Try.ntmps5, List.size_toArray, List.length_cons, List.length_nil, Nat.reduceAdd, Nat.reduceSub, Array.replicate_succ, Array.replicate_zero, List.push_toArray, List.append_toArray, List.nil_append, List.cons_append]
  refine wpIn_wide.2 ?_
  go_wp2_with (fail)
  have bX : Below w.heap.size w ((w.alloc (.cells #[.int .i64 a1] 3)).alloc (.cells #[.bool false] 4)) := ((Below.refl _ w).alloc (Nat.le_refl _) _).alloc (by simp) _
  obtain ⟨X, hX⟩ : ∃ X, ((w.alloc (.cells #[.int .i64 a1] 3)).alloc (.cells #[.bool false] 4)) = X := ⟨_, rfl⟩
  have hsX : X.heap.size = w.heap.size + 2 := by rw [← hX]; simp
  have bS : Boxed X w.heap.size 3 (.int .i64 a1) := by rw [← hX]; exact (Boxed.new w 3 _).alloc _
  have bR : Boxed X (w.heap.size + 1) 4 (.bool false) := by rw [← hX]; have := Boxed.new (w.alloc (.cells #[.int .i64 a1] 3)) 4 (.bool false); rwa [World.size_alloc] at this
  rw [hX] at bX ⊢
  clear hX
  have H0 := Lib.hid (And.intro bX (And.intro bS bR))
  clear bX bS bR
  refine (newL w.heap.size X (by omega)).mono ?_
  rintro e X1 ⟨rfl, L1, b1, hs1⟩
  have HS1 := Lib.hid (And.intro L1 b1)
  clear L1 b1
  rw [hsX] at HS1 hs1 ⊢
  go_wp2_with (fail)
  refine (newL w.heap.size X1 (by omega)).mono ?_
  rintro e X2 ⟨rfl, L2, bb2, hs2⟩
  have L1 := HS1.out.1.below bb2
  have b2 : Below X.heap.size X X2 := by
    have h1 := HS1.out.2
    rw [← hsX] at h1
    exact h1.trans (bb2.mono h1.size)
  rw [hs1] at L2 hs2 ⊢
  have HS2 := Lib.hid (And.intro L1 (And.intro L2 b2))
  clear HS1 L1 L2 bb2 b2
  go_wp2_with (fail)
  obtain ⟨X3, hX3⟩ : ∃ X3, X2.alloc (.cells #[.pointer (some ⟨w.heap.size + 2, 0, none⟩)] 23) = X3 := ⟨_, rfl⟩
  have bb3 : Below X2.heap.size X2 X3 := by rw [← hX3]; exact (Below.refl _ X2).alloc (Nat.le_refl _) _
  have p3 : Boxed X3 (w.heap.size + 2 + 1 + 1) 23 (.pointer (some ⟨w.heap.size + 2, 0, none⟩)) := by rw [← hX3]; have := Boxed.new X2 23 (.pointer (some ⟨w.heap.size + 2, 0, none⟩)); rwa [hs2] at this
  have hs3 : X3.heap.size = w.heap.size + 5 := by rw [← hX3]; simp; omega
  rw [hX3]
  clear hX3
  obtain ⟨L1, L2, b2⟩ := HS2.out
  have L1 := L1.below bb3
  have L2 := L2.below bb3
  have bX3 : Below X.heap.size X X3 := b2.trans (bb3.mono b2.size)
  have b3 : Below w.heap.size w X3 := H0.out.1.trans (bX3.mono H0.out.1.size)
  have bS3 : Boxed X3 w.heap.size 3 (.int .i64 a1) := (bX3.block _ H0.out.2.1.lt).trans H0.out.2.1
  have bR3 : Boxed X3 (w.heap.size + 1) 4 (.bool false) := (bX3.block _ H0.out.2.2.lt).trans H0.out.2.2
  clear HS2 b2 bb3 H0 bX3
  have hng : ∀ b, Own (w.heap.size + 2 + 1) (.slice none 0 0) b → b = w.heap.size + 2 + 1 := fun b h1 => own_new h1
  have hlen : (sgs [] 0 0 la).length ≤ 600 := Nat.le_trans (sgs_len _ _ _ _) hla
  refine (feedL w X3 (w.heap.size + 2 + 1) a0 cap0 la _ [] 0 0 L2 b3 (by omega) hca HD.out).mono ?_
  rintro e X4 ⟨v4, vh4, rfl, M4, S4, b4, s4, o4⟩
  have L4 := L1.step s4 (fun b h1 h2 => by have := own_new h1; have := own_new h2; omega)
  have bS4 := boxed_stab bS3 s4 (fun h => by have := own_new h; omega)
  have bR4 := boxed_stab bR3 s4 (fun h => by have := own_new h; omega)
  have p4 := boxed_stab p3 s4 (fun h => by have := own_new h; omega)
  have hs4 : w.heap.size + 5 ≤ X4.heap.size := by have := s4.size; omega
  obtain ⟨A7, c7, rfl⟩ := S4.slice
  have hSlt : ∀ k, (Value.slice A7 (sgs [] 0 0 la).length c7).ownBlock = some k → k < X4.heap.size := fun k hk => (Array.getElem?_eq_some_iff.1 (S4.typed k hk).1.choose_spec).1
  rw [Nat.zero_add] at M4
  have H4 := Lib.hid (And.intro L4 (And.intro M4 (And.intro S4 (And.intro b4 (And.intro bS4 (And.intro bR4 p4))))))
  have c5 := p4.cell
  clear L1 L2 b3 bS3 bR3 p3 L4 M4 S4 b4 s4 o4 bS4 bR4 p4
  have hsg := sgs_cut la [] 0 0
  generalize hK : sgs [] 0 0 la = L at *
  have c5 := cell_al (cell_al c5 (.cells #[.slice A7 L.length c7] 28)) (.cells #[.int .i64 0] 3)
  have HK := Lib.hid (And.intro hK hsg)
  clear hK hsg
  go_wp2_with (go_at_call 9; refine (each_call _ _ _ rfl _ _ _ _ rfl).mono ?_; rintro e w' ⟨rfl, rfl⟩)
  have hbY : Below X4.heap.size X4 ((((X4.alloc (.cells #[.slice A7 L.length c7] 28)).alloc (.cells #[.int .i64 0] 3)).alloc (.cells #[.pointer (some ⟨w.heap.size + 2, 0, none⟩)] 23)).alloc (.cells #[.slice a0 la.length cap0] 22)) := ((((Below.refl _ X4).alloc (Nat.le_refl _) _).alloc (by simp) _).alloc (by simp; omega) _).alloc (by simp; omega) _
  obtain ⟨Y, hY⟩ : ∃ Y, ((((X4.alloc (.cells #[.slice A7 L.length c7] 28)).alloc (.cells #[.int .i64 0] 3)).alloc (.cells #[.pointer (some ⟨w.heap.size + 2, 0, none⟩)] 23)).alloc (.cells #[.slice a0 la.length cap0] 22)) = Y := ⟨_, rfl⟩
  have hsY : Y.heap.size = X4.heap.size + 4 := by rw [← hY]; simp
  have b7 : Boxed Y X4.heap.size 28 (.slice A7 L.length c7) := by rw [← hY]; exact (((Boxed.new X4 28 _).alloc _).alloc _).alloc _
  have b8 : Boxed Y (X4.heap.size + 1) 3 (.int .i64 0) := by rw [← hY]; have := ((Boxed.new (X4.alloc (.cells #[.slice A7 L.length c7] 28)) 3 (.int .i64 0)).alloc (.cells #[.pointer (some ⟨w.heap.size + 2, 0, none⟩)] 23)).alloc (.cells #[.slice a0 la.length cap0] 22); rwa [World.size_alloc] at this
  have bP : Boxed Y (X4.heap.size + 2) 23 (.pointer (some ⟨w.heap.size + 2, 0, none⟩)) := by rw [← hY]; have := (Boxed.new ((X4.alloc (.cells #[.slice A7 L.length c7] 28)).alloc (.cells #[.int .i64 0] 3)) 23 (.pointer (some ⟨w.heap.size + 2, 0, none⟩))).alloc (.cells #[.slice a0 la.length cap0] 22); rwa [World.size_alloc, World.size_alloc] at this
  have bB : Boxed Y (X4.heap.size + 3) 22 (.slice a0 la.length cap0) := by rw [← hY]; have := Boxed.new (((X4.alloc (.cells #[.slice A7 L.length c7] 28)).alloc (.cells #[.int .i64 0] 3)).alloc (.cells #[.pointer (some ⟨w.heap.size + 2, 0, none⟩)] 23)) 22 (.slice a0 la.length cap0); rwa [World.size_alloc, World.size_alloc, World.size_alloc] at this
  rw [hY] at hbY ⊢
  clear hY c5
  have gY := H4.out.1.below hbY
  have mY := H4.out.2.1.below hbY
  have SY : SegRow X3.heap.size Y (fun b => b = w.heap.size + 2 ∨ b = X4.heap.size + 1) (.slice A7 L.length c7) L := SegRow.retype (H4.out.2.2.1.step (Stab.of_below (T := Own (w.heap.size + 2 + 1) vh4) (n := 0) hbY) (fun b hb => .inl hb)) (fun b hb => by
    rcases hb with rfl | rfl
    · exact ⟨_, 51, gY.1, by decide, by decide⟩
    · exact ⟨_, 3, b8, by decide, by decide⟩)
  have bYw : Below w.heap.size w Y := H4.out.2.2.2.1.trans (hbY.mono H4.out.2.2.2.1.size)
  have bSY : Boxed Y w.heap.size 3 (.int .i64 a1) := (hbY.block _ H4.out.2.2.2.2.1.lt).trans H4.out.2.2.2.2.1
  have bRY : Boxed Y (w.heap.size + 1) 4 (.bool false) := (hbY.block _ H4.out.2.2.2.2.2.1.lt).trans H4.out.2.2.2.2.2.1
  have p5Y : Boxed Y (w.heap.size + 2 + 1 + 1) 23 (.pointer (some ⟨w.heap.size + 2, 0, none⟩)) := (hbY.block _ H4.out.2.2.2.2.2.2.lt).trans H4.out.2.2.2.2.2.2
  have hrY : Kd.F (Kd.int .u8) Y (fun k => k < w.heap.size) a0 la.length la := Kd.F_step (Kd.C_F (Kd.heap_int .u8) HD.out) (fun k hk _ => bYw.block k hk)
  have hdis : ∀ b, Own (w.heap.size + 2 + 1) vh4 b → ¬ (b = w.heap.size + 2 ∨ b = X4.heap.size + 1) := fun b h1 h2 => by
    rcases h2 with h2 | h2
    · subst h2
      rcases h1 with h1 | h1
      · omega
      · obtain ⟨cells, hc⟩ := Kd.R_typed mY.2.1 _ h1
        have := gY.1
        unfold Scn at this
        rw [hc] at this; cases this
    · have := H4.out.2.1.own_lt h1; omega
  have hit := each1 (fun k => k < w.heap.size) Y (w.heap.size + 2) w.heap.size (X4.heap.size + 3) (X4.heap.size + 2) a0 cap0 la _ [] 0 0 bP bB gY.1 gY.2.1 (by simp) (Nat.le_refl _) (by omega) hca hrY (fun b hb' => ⟨by omega, fun h => by have := own_new h; omega⟩) (by omega)
  rw [HK.out.1] at hit
  have HY := Lib.hid (And.intro gY (And.intro mY (And.intro SY (And.intro bYw (And.intro bSY (And.intro bRY (And.intro p5Y b7)))))))
  clear gY mY SY bYw bSY bRY p5Y b7 hrY bP bB hbY
  refine wp_range (gf := 20) (lb := #[.pointer (some ⟨X4.heap.size + 2, 0, none⟩), .pointer (some ⟨X4.heap.size + 3, 0, none⟩)]) rfl (enters_of Try.func20 (by kernel_rfl) rfl) hit trivial
    (fun b hb' => by rcases hb' with h | h | h <;> omega) (fun b hb' => by have := own_new hb'; omega) (fun k vs T B W h => by obtain ⟨_, _, _, rfl, _⟩ := h; rfl) ?hFin
    (EchI Y (w.heap.size + 2) (X4.heap.size + 1) a1) (fun c k T W => c = .exit 0 ∧ (k : Int) = a1 ∧ EchI Y (w.heap.size + 2) (X4.heap.size + 1) a1 k T W) ?hI ?hIx ?h0 ?round ?done ?stop
  case hFin =>
    rintro f k T W W' ⟨h1, h2⟩ hs
    refine And.intro (fun hf' => ?_) (fun hf' => ?_)
    · obtain ⟨v, q1, q2, q3⟩ := h1 hf'
      exact ⟨v, q1, hs.block q2 (fun h => h) rfl, R_own_same q3 (fun k hk => by obtain ⟨cells, hcs⟩ := Kd.R_typed q3 k hk; rw [hcs]; exact hs.block hcs (fun h => h) rfl)⟩
    · obtain ⟨s, q1, q2, q3⟩ := h2 hf'
      exact ⟨s, q1, q2, hs.block q3 (fun h => h) rfl⟩
  case hI =>
    rintro k T T' W W' _ _ h hs hT'
    exact h.step hs hT' (by omega) (by omega)
  case hIx =>
    rintro c k T T' W W' _ _ ⟨h1, h2, h3⟩ hs hT'
    exact ⟨h1, h2, h3.step hs hT' (by omega) (by omega)⟩
  case h0 => exact ⟨fun b hb => by have := own_new hb; exact .inl this, Stab.refl _ _ _, b8, fun j hj => by omega⟩
  case round =>
    rintro l' n' k T T1 W0 X0 vs hk _ _ hI hT1 hst ⟨s, As, hseg, rfl, hby, hsc, hTg⟩ hRb
    have hI2 := hI.step hst hT1 (show X4.heap.size + 1 ≠ w.heap.size + 2 by omega) (show X4.heap.size + 1 < Y.heap.size by omega)
    clear hI hst hT1
    gi_wp2
    refine ⟨(Below.refl _ X0).alloc (Nat.le_refl _) _, fun W2 hs => ?_⟩
    have bA : Below X0.heap.size X0 (X0.alloc (.cells #[.slice As s.f0.length s.f0.length, .bool s.f1, .int .i64 s.f2, .int .u64 s.f3] 39)) := (Below.refl _ X0).alloc (Nat.le_refl _) _
    have hX4' : B4 (X0.alloc (.cells #[.slice As s.f0.length s.f0.length, .bool s.f1, .int .i64 s.f2, .int .u64 s.f3] 39)) X0.heap.size (.slice As s.f0.length s.f0.length) (.bool s.f1) (.int .i64 s.f2) (.int .u64 s.f3) := World.alloc_heap_new _ _
    have h24 : B4 W2 X0.heap.size (.slice As s.f0.length s.f0.length) (.bool s.f1) (.int .i64 s.f2) (.int .u64 s.f3) := hs.block hX4' (fun h => h) rfl
    have sF : Stab (fun _ => False) Y.heap.size X0 W2 := (Stab.of_below bA).trans hs (fun b h => h.elim)
    have hby2 : BytesT W2 T1 As s.f0 := hby.stepn sF.falseT (fun b hb => .inl hb)
    have hsc2 : Scn W2 (w.heap.size + 2) (.slice none 0 0) 0 (s.f3 + s.f2 + 1) := sF.block hsc (fun h => h) rfl
    have hI3 := hI2.step sF.falseT (fun b hb => .inl hb) (show X4.heap.size + 1 ≠ w.heap.size + 2 by omega) (show X4.heap.size + 1 < Y.heap.size by omega)
    have S2 := HY.out.2.2.1.step (T' := fun b => b = w.heap.size + 2 ∨ b = X4.heap.size + 1) hI3.2.1 (fun b hb => .inl hb)
    have C2 := S2.C (by omega)
    obtain ⟨ad7, rfl, -⟩ := C2.2.2 (by omega)
    have hc7 : L.length ≤ c7 := by
      obtain ⟨h0, rows, hl, hR, hf⟩ := S2
      have := Kd.R_reads' hR
      rw [← hl]; rw [← hl] at this; exact this.2.1
    have hb7 : Boxed W2 X4.heap.size 28 (.slice (some ad7) L.length c7) := boxed_stab HY.out.2.2.2.2.2.2.2 hI3.2.1 (fun h => by omega)
    have hb5 : Boxed W2 (w.heap.size + 2 + 1 + 1) 23 (.pointer (some ⟨w.heap.size + 2, 0, none⟩)) := boxed_stab HY.out.2.2.2.2.2.2.1 hI3.2.1 (fun h => by omega)
    have hbS : Boxed W2 w.heap.size 3 (.int .i64 a1) := boxed_stab HY.out.2.2.2.2.1 hI3.2.1 (fun h => by omega)
    have hb8 := hI3.2.2.1
    have k0 := hb8.cell
    have k7 := hb7.cell
    have k5 := hb5.cell
    have kS := hbS.cell
    have k8f := hb8.frozen
    obtain ⟨e, he, hse, -, -⟩ := HK.out.2 k s (Nat.le_refl _) hseg
    have hin := sgs_in la [] 0 0 s (by rw [HK.out.1]; exact List.mem_of_getElem? hseg) (Nat.le_refl _)
    have HG := Lib.hid (And.intro h24 (And.intro hby2 (And.intro hsc2 (And.intro hI3 (And.intro C2 (And.intro hse (And.intro hin (And.intro hRb (And.intro hTg hseg)))))))))
    clear hs bA hX4' h24 sF hby hsc hby2 hsc2 hI3 S2 C2 hI2 hse hin hRb hTg hseg hb7 hb5 hbS hb8
    have hkL : ((L.length : Int) ≤ (k : Int)) = False := eq_false (by omega)
    gi_wp2_with (fail)
    have e1 : wrap64 ((k : Int) + 1) = ((k + 1 : Nat) : Int) := kw (Nat.lt_of_lt_of_le hk (Nat.le_trans hlen (by decide)))
    have hCW : W2.cell? ⟨X4.heap.size + 1, 0, none⟩ = some (.int .i64 (k : Int)) ∧ W2.cell? ⟨X4.heap.size, 0, none⟩ = some (.slice (some ad7) L.length c7) ∧ B4 W2 X0.heap.size (.slice As s.f0.length s.f0.length) (.bool s.f1) (.int .i64 s.f2) (.int .u64 s.f3) := ⟨k0, k7, HG.out.1⟩
    have hk1 : (k ≤ k + 1) = True := eq_true (Nat.le_succ k)
    have hk2 : (k + 1 ≤ c7) = True := eq_true (Nat.le_trans hk hc7)
    have hk3 : (k + 1 ≤ L.length) = True := eq_true hk
    have e2 : IntKind.i64.wrap ((k : Int) + 1) = (k : Int) + 1 := kw' (Nat.lt_of_lt_of_le hk (Nat.le_trans hlen (by decide)))
    have e3 : (0 ≤ (k : Int) + 1 ∧ (k : Int) + 1 ≤ (c7 : Int)) = True := kc (Nat.lt_of_lt_of_le hk hc7)
    have e4 : ((k : Int) + 1).toNat = k + 1 := rfl
    have e5 : (c7 = k) = False := eq_false (Nat.ne_of_gt (Nat.lt_of_lt_of_le hk hc7))
    refine wpIn_region_hoist [(0, true), (1, true), (2, true), (3, true), (4, true), (5, true), (7, true), (8, true), (9, true), (10, true), (11, true), (6, false), (12, false), (13, true), (14, true)] (fun w' => w'.cell? ⟨X4.heap.size + 1, 0, none⟩ = some (.int .i64 (k : Int)) ∧ w'.cell? ⟨X4.heap.size, 0, none⟩ = some (.slice (some ad7) L.length c7) ∧ B4 w' X0.heap.size (.slice As s.f0.length s.f0.length) (.bool s.f1) (.int .i64 s.f2) (.int .u64 s.f3)) (fun _ => trivial) (by kernel_rfl) (by kernel_rfl) ?_
    have bd : Below W2.heap.size W2 W2.drew := (Below.refl _ W2).drew
    obtain ⟨V2, hV2⟩ : ∃ V2, W2.drew = V2 := ⟨_, rfl⟩
    rw [hV2] at bd ⊢
    clear hV2
    have hCW : V2.cell? ⟨X4.heap.size + 1, 0, none⟩ = some (.int .i64 (k : Int)) ∧ V2.cell? ⟨X4.heap.size, 0, none⟩ = some (.slice (some ad7) L.length c7) ∧ B4 V2 X0.heap.size (.slice As s.f0.length s.f0.length) (.bool s.f1) (.int .i64 s.f2) (.int .u64 s.f3) := ⟨pw_cell_below bd hCW.1, pw_cell_below bd hCW.2.1, (bd.block _ (Array.getElem?_eq_some_iff.1 hCW.2.2).1).trans hCW.2.2⟩
    iterate 5 (apply wpH_readL _ rfl rfl rfl; (· (intro w' hw'; obtain ⟨r1, r2, r3⟩ := hw'; obtain ⟨x0, x1, x2, x3⟩ := r3.c; clear r3; go_simp; exact ⟨rfl, rfl⟩)); simp only [List.set_cons_zero, List.set_cons_succ])
    iterate 6 (apply wpH_readL _ rfl rfl rfl; (· (intro w' hw'; obtain ⟨r1, r2, r3⟩ := hw'; obtain ⟨x0, x1, x2, x3⟩ := r3.c; clear r3; go_simp; exact ⟨rfl, rfl⟩)); simp only [List.set_cons_zero, List.set_cons_succ])
    apply wpH_valueL (w := V2) (.slice (some ⟨V2.heap.size, 0, none⟩) 1 1) (w' := V2.alloc (.cells #[.slice As s.f0.length s.f0.length, .bool s.f1, .int .i64 s.f2, .int .u64 s.f3] 39)) (fun _ => trivial) rfl rfl hCW rfl (fun c h => by cases h) (by kernel_rfl)
    simp only [List.set_cons_zero, List.set_cons_succ]
    obtain ⟨W3, hW3⟩ : ∃ W3, V2.alloc (.cells #[.slice As s.f0.length s.f0.length, .bool s.f1, .int .i64 s.f2, .int .u64 s.f3] 39) = W3 := ⟨_, rfl⟩
    have b23 : Below V2.heap.size V2 W3 := by rw [← hW3]; exact (Below.refl _ V2).alloc (Nat.le_refl _) _
    have n3 : B4 W3 V2.heap.size (.slice As s.f0.length s.f0.length) (.bool s.f1) (.int .i64 s.f2) (.int .u64 s.f3) := by rw [← hW3]; exact World.alloc_heap_new _ _
    rw [hW3]
    clear hW3
    have hCW3 : W3.cell? ⟨X4.heap.size + 1, 0, none⟩ = some (.int .i64 (k : Int)) ∧ W3.cell? ⟨X4.heap.size, 0, none⟩ = some (.slice (some ad7) L.length c7) ∧ B4 W3 X0.heap.size (.slice As s.f0.length s.f0.length) (.bool s.f1) (.int .i64 s.f2) (.int .u64 s.f3) := ⟨pw_cell_below b23 hCW.1, pw_cell_below b23 hCW.2.1, (b23.block _ (Array.getElem?_eq_some_iff.1 hCW.2.2).1).trans hCW.2.2⟩
    have CA : Kd.C P.k39 W3 (some ⟨V2.heap.size, 0, none⟩) [s].length [s] := seg_one n3 (Kd.C_below (Kd.C_below (Kd.F_now HG.out.2.1) bd) b23)
    have CB : Kd.C P.k39 W3 (some (ad7.add (k * 4))) [s].length [s] := by
      have h1 := C_piece' (Kd.C_below (Kd.C_below HG.out.2.2.2.2.1 bd) b23) k 1 hk
      rwa [show (L.drop k).take 1 = [s] from take_one HG.out.2.2.2.2.2.2.2.2.2] at h1
    have hsame := same_call W3 (some ⟨V2.heap.size, 0, none⟩) (some (ad7.add (k * 4))) 1 (c7 - k) [s] CA CB (by simp)
    apply wpH_callL (f := 17) (args := #[.slice (some ⟨V2.heap.size, 0, none⟩) 1 1, .slice (some (ad7.add (k * 4))) 1 (c7 - k)]) (fun _ => trivial) rfl rfl rfl hCW3 rfl (fun c h => by cases h) (by kernel_rfl)
    refine (CallsIn.inRound l' (callsIn_wide.2 hsame)).mono ?_
    rintro e W4 ⟨rfl, b34⟩
    refine ⟨_, rfl, ?_⟩
    simp only [List.set_cons_zero, List.set_cons_succ]
    have b24 : Below V2.heap.size V2 W4 := b23.trans (b34.mono b23.size)
    have hCW4 : W4.cell? ⟨X4.heap.size + 1, 0, none⟩ = some (.int .i64 (k : Int)) ∧ W4.cell? ⟨X4.heap.size, 0, none⟩ = some (.slice (some ad7) L.length c7) ∧ B4 W4 X0.heap.size (.slice As s.f0.length s.f0.length) (.bool s.f1) (.int .i64 s.f2) (.int .u64 s.f3) := ⟨pw_cell_below b24 hCW.1, pw_cell_below b24 hCW.2.1, (b24.block _ (Array.getElem?_eq_some_iff.1 hCW.2.2).1).trans hCW.2.2⟩
    iterate 2 (apply wpH_readL _ rfl rfl rfl; (· (intro w' hw'; clear hw'; go_simp; exact ⟨rfl, rfl⟩)); simp only [List.set_cons_zero, List.set_cons_succ])
    refine wpH_end hCW4 ?_
    have m0 := hCW4.1
    have b24' : Below W2.heap.size W2 W4 := bd.trans (b24.mono bd.size)
    have m5 := pw_cell_below b24' k5
    have mS := pw_cell_below b24' kS
    have m8f : W4.frozen? ⟨X4.heap.size + 1, 0, none⟩ = false := by
      exact Boxed.frozen (show Boxed W4 (X4.heap.size + 1) 3 (.int .i64 (k : Int)) from (b24'.block _ HG.out.2.2.2.1.2.2.1.lt).trans HG.out.2.2.2.1.2.2.1)
    obtain ⟨x0, x1, x2, x3⟩ := hCW4.2.2.c
    have HB := Lib.hid b24'
    clear b23 n3 hCW3 CA CB hsame b34 b24 b24' bd hCW hCW4 k0 k7 k5 kS k8f hk1 hk2 hk3 e2 e3 e4 e5 hkL
    by_cases hstp : (k : Int) = a1
    · subst hstp
      have ew1 : IntKind.u64.wrap s.f2 = s.f2 := (u64w HG.out.2.2.2.2.2.2.1 hla).1
      have ew2 : IntKind.u64.wrap (s.f3 + s.f2) = s.f3 + s.f2 := (u64w HG.out.2.2.2.2.2.2.1 hla).2.1
      have ew3 : IntKind.u64.wrap (s.f3 + s.f2 + 1) = s.f3 + s.f2 + 1 := (u64w HG.out.2.2.2.2.2.2.1 hla).2.2
      have g4 : Scn W4 (w.heap.size + 2) (.slice none 0 0) 0 (s.f3 + s.f2 + 1) := (HB.out.block _ HG.out.2.2.1.lt).trans HG.out.2.2.1
      have hG4 := Lib.hid g4
      clear g4
      gi_wp2_with (fail)
      refine (CallsIn.inRound l' (callsIn_wide.2 (fed_call W4 _ _ _ _ hG4.out))).mono ?_
      rintro e W5 ⟨rfl, rfl⟩
      gi_wp2_with (fail)
      refine (CallsIn.inRound l' (callsIn_wide.2 (open_call W5 _ _ _ _ hG4.out))).mono ?_
      rintro e W6 ⟨rfl, rfl⟩
      gi_wp2_with (fail)
      refine ⟨Keep.of_below HB.out, Books.of_below HB.out, rfl, ?_⟩
      have hI6 := HG.out.2.2.2.1.step (Stab.of_below (T := T1) HB.out) (fun b hb => .inl hb) (show X4.heap.size + 1 ≠ w.heap.size + 2 by omega) (show X4.heap.size + 1 < Y.heap.size by omega)
      first | exact hI6 | exact ⟨rfl, hI6⟩ | exact ⟨trivial, hI6⟩
    · have hstp2 : ((k : Int) == a1) = false := beq_eq_false_iff_ne.2 hstp
      have hI4 := HG.out.2.2.2.1.step (Stab.of_below (T := T1) HB.out) (fun b hb => .inl hb) (show X4.heap.size + 1 ≠ w.heap.size + 2 by omega) (show X4.heap.size + 1 < Y.heap.size by omega)
      have kR : Keep (fun b => (b < w.heap.size ∨ b = X4.heap.size + 3 ∨ b = X4.heap.size + 2) ∨ T1 b) W4 (W4.setCell ⟨X4.heap.size + 1, 0, none⟩ (.int .i64 ((k : Int) + 1))) := Keep.setCell _ (fun h => by
        rcases h with (h | h | h) | h
        · exact absurd h (nlt X4.heap.size w.heap.size hs4)
        · simp at h
        · simp at h
        · exact absurd (HG.out.2.2.2.2.2.2.2.2.1 _ h) (nne X4.heap.size w.heap.size hs4)) _
      have hI5 : EchI Y (w.heap.size + 2) (X4.heap.size + 1) a1 (k + 1) T1 (W4.setCell ⟨X4.heap.size + 1, 0, none⟩ (.int .i64 ((k : Int) + 1))) := ⟨hI4.1, hI4.2.1.trans (Stab.setT (T := fun b => b = w.heap.size + 2 ∨ b = X4.heap.size + 1) (p := ⟨X4.heap.size + 1, 0, none⟩) W4 (.inr rfl) _) (fun b hb => .inl hb), hI4.2.2.1.set _, fun j hj => by
        rcases Nat.lt_or_ge j k with h | h
        · exact hI4.2.2.2 j h
        · have : j = k := Nat.le_antisymm (Nat.lt_succ_iff.1 hj) h
          subst this; exact hstp⟩
      have HE := Lib.hid (And.intro ((Keep.of_below HB.out).trans kR) (And.intro ((Books.of_below HB.out).trans (Books.setCell W4 ⟨X4.heap.size + 1, 0, none⟩ (.int .i64 ((k : Int) + 1)))) hI5))
      clear hI4 kR hI5
      gi_wp2_with (fail)
      exact HE.out
  case done =>
    rintro D T W ⟨hT, hS, h8, hne⟩ ⟨hF, _⟩ hD hd
    obtain ⟨vh, q1, q2, q3⟩ := hF rfl
    rw [Nat.zero_add] at q2
    have hld1 := hld_len la [] 0 (by simp)
    have hld2 := hld_le la [] 0
    have LW : Live w.heap.size W (w.heap.size + 2) vh (hld [] 0 la).1 (hld [] 0 la).2 la.length := ⟨q2, q3, hld1, by omega, by omega, by have := hS.size; omega⟩
    have MW := HY.out.2.1.step hS hdis
    have bSW := boxed_stab HY.out.2.2.2.2.1 hS (fun h => by omega)
    have bRW := boxed_stab HY.out.2.2.2.2.2.1 hS (fun h => by omega)
    have p5W := boxed_stab HY.out.2.2.2.2.2.2.1 hS (fun h => by omega)
    have b7W := boxed_stab HY.out.2.2.2.2.2.2.2 hS (fun h => by omega)
    have bwW : Below w.heap.size w W := hS.below HY.out.2.2.2.1 (by omega) HY.out.2.2.2.1.size (fun b hb h => by omega)
    have cS := bSW.cell
    have c5 := p5W.cell
    have c7' := b7W.cell
    have c8 := h8.cell
    have HW := Lib.hid (And.intro LW (And.intro MW (And.intro bRW (And.intro bwW (And.intro hd (And.intro p5W (And.intro b7W h8)))))))
    have hcase : a1 < 0 ∨ (0 ≤ a1 ∧ ¬ a1 < (L.length : Int)) := by
      by_cases h : a1 < 0
      · exact .inl h
      · refine .inr ⟨by omega, fun h2 => ?_⟩
        exact hne a1.toNat (by omega) (by omega)
    clear hT hS h8 hne hF q1 q2 q3 hld1 hld2 LW MW bSW bRW p5W b7W bwW hd
    rcases hcase with hq | ⟨hq, hq2⟩
    · have hq1 : (0 ≤ a1) = False := eq_false (by omega)
      clear hq
      go_wp2_with (fail)
      refine (known_call W).mono ?_
      rintro e W1 ⟨rfl, b1⟩
      have d8 := pw_cell_below b1 c8
      have d7 := pw_cell_below b1 c7'
      have d5 := pw_cell_below b1 c5
      have bR1 : Boxed W1 (w.heap.size + 1) 4 (.bool false) := (b1.block _ HW.out.2.2.1.lt).trans HW.out.2.2.1
      have hd1 : W1.heap[D]? = some (.deferred (some [])) := (b1.block _ (Array.getElem?_eq_some_iff.1 HW.out.2.2.2.2.1).1).trans HW.out.2.2.2.2.1
      have f1 := bR1.frozen
      have cR1 := bR1.cell
      have H1 := Lib.hid (And.intro (HW.out.1.below b1) (And.intro (HW.out.2.1.below b1) (And.intro bR1 (And.intro (HW.out.2.2.2.1.trans (b1.mono HW.out.2.2.2.1.size)) hd1))))
      clear b1 bR1 hd1 c8 c7' c5 cS
      go_wp2_with (fail)
      refine (fedL H1.out.1).mono ?_
      rintro e X5 ⟨rfl, rfl⟩
      go_wp2_with (fail)
      refine (fedL H1.out.2.1).mono ?_
      rintro e X5 ⟨rfl, rfl⟩
      go_wp2_with (fail)
      refine (heldL H1.out.1).mono ?_
      rintro e X5 ⟨rfl, rfl⟩
      go_wp2_with (fail)
      refine (heldL H1.out.2.1).mono ?_
      rintro e X5 ⟨rfl, rfl⟩
      go_wp2_with (fail)
      exact ech_ret H1.out.2.2.1 H1.out.2.2.2.1 H1.out.2.2.2.2 (by omega) rfl
    · have hq1 : (0 ≤ a1) = True := eq_true hq
      have hq3 : (a1 < (L.length : Int)) = False := eq_false hq2
      clear hq hq2
      go_wp2_with (fail)
      refine (known_call W).mono ?_
      rintro e W1 ⟨rfl, b1⟩
      have d8 := pw_cell_below b1 c8
      have d7 := pw_cell_below b1 c7'
      have d5 := pw_cell_below b1 c5
      have bR1 : Boxed W1 (w.heap.size + 1) 4 (.bool false) := (b1.block _ HW.out.2.2.1.lt).trans HW.out.2.2.1
      have hd1 : W1.heap[D]? = some (.deferred (some [])) := (b1.block _ (Array.getElem?_eq_some_iff.1 HW.out.2.2.2.2.1).1).trans HW.out.2.2.2.2.1
      have f1 := bR1.frozen
      have cR1 := bR1.cell
      have H1 := Lib.hid (And.intro (HW.out.1.below b1) (And.intro (HW.out.2.1.below b1) (And.intro bR1 (And.intro (HW.out.2.2.2.1.trans (b1.mono HW.out.2.2.2.1.size)) hd1))))
      clear b1 bR1 hd1 c8 c7' c5 cS
      go_wp2_with (fail)
      refine (fedL H1.out.1).mono ?_
      rintro e X5 ⟨rfl, rfl⟩
      go_wp2_with (fail)
      refine (fedL H1.out.2.1).mono ?_
      rintro e X5 ⟨rfl, rfl⟩
      go_wp2_with (fail)
      refine (heldL H1.out.1).mono ?_
      rintro e X5 ⟨rfl, rfl⟩
      go_wp2_with (fail)
      refine (heldL H1.out.2.1).mono ?_
      rintro e X5 ⟨rfl, rfl⟩
      go_wp2_with (fail)
      exact ech_ret H1.out.2.2.1 H1.out.2.2.2.1 H1.out.2.2.2.2 (by omega) rfl
  case stop =>
    rintro D c k T W hk ⟨rfl, hka, hT, hS, h8, hne⟩ ⟨_, hF⟩ hD hd
    subst hka
    obtain ⟨s, hseg, q1, q2⟩ := hF rfl
    obtain ⟨e, he, hse, hcut, hcut2⟩ := HK.out.2 k s (Nat.le_refl _) hseg
    rw [Nat.zero_add] at hse hcut
    rw [hse] at q2
    have LW : Live w.heap.size W (w.heap.size + 2) (.slice none 0 0) [] 0 e := ⟨q2, Kd.R_nil _ _ _ _ _, by simp, by omega, by omega, by have := hS.size; omega⟩
    have MW := HY.out.2.1.step hS hdis
    have bSW := boxed_stab HY.out.2.2.2.2.1 hS (fun h => by omega)
    have bRW := boxed_stab HY.out.2.2.2.2.2.1 hS (fun h => by omega)
    have p5W := boxed_stab HY.out.2.2.2.2.2.2.1 hS (fun h => by omega)
    have b7W := boxed_stab HY.out.2.2.2.2.2.2.2 hS (fun h => by omega)
    have SW := HY.out.2.2.1.step (T' := fun b => b = w.heap.size + 2 ∨ b = X4.heap.size + 1) hS (fun b hb => .inl hb)
    have bwW : Below w.heap.size w W := hS.below HY.out.2.2.2.1 (by omega) HY.out.2.2.2.1.size (fun b hb h => by omega)
    have CW := SW.C (by omega)
    obtain ⟨ad7, rfl, -⟩ := CW.2.2 (by omega)
    have hc7 : L.length ≤ c7 := by
      obtain ⟨h0, rows, hl, hR, hf⟩ := SW
      have := Kd.R_reads' hR
      rw [← hl]; rw [← hl] at this; exact this.2.1
    have hlapos : 0 < la.length := by
      have := sgs_len la [] 0 0
      rw [HK.out.1] at this; omega
    obtain ⟨ad0, rfl, -⟩ := HD.out.2.2 hlapos
    have cS := bSW.cell
    have c5 := p5W.cell
    have c7' := b7W.cell
    have c8 := h8.cell
    have hdL : (L.drop (k + 1)).length = L.length - (k + 1) := by simp
    have HW := Lib.hid (And.intro LW (And.intro MW (And.intro bRW (And.intro bwW (And.intro hd (And.intro SW (And.intro hcut hcut2)))))))
    have hkL : ((k : Int) < (L.length : Int)) = True := eq_true (by omega)
    clear hT hS h8 hne hF q1 q2 LW MW bSW bRW p5W b7W bwW hd SW CW hcut hcut2 hse hseg
    go_wp2_with (fail)
    have b0 : Below W.heap.size W W.drew := (Below.refl _ W).drew
    obtain ⟨V, hV⟩ : ∃ V, W.drew = V := ⟨_, rfl⟩
    refine wp_region_hoist [(0, false), (1, true), (2, true), (3, true), (4, true), (5, true), (6, true), (7, true), (8, true), (9, true), (13, true), (14, true), (15, true), (16, true), (10, false), (11, true), (12, false), (17, false), (18, true), (19, true), (20, true), (22, true), (21, false), (23, false), (24, true), (25, true), (26, false)] (fun w' => w'.cell? ⟨X4.heap.size + 1, 0, none⟩ = some (.int .i64 (k : Int)) ∧ w'.cell? ⟨X4.heap.size, 0, none⟩ = some (.slice (some ad7) L.length c7) ∧ w'.cell? ⟨w.heap.size, 0, none⟩ = some (.int .i64 (k : Int)) ∧ w'.cell? ⟨w.heap.size + 2 + 1 + 1, 0, none⟩ = some (.pointer (some ⟨w.heap.size + 2, 0, none⟩))) (by kernel_rfl) (by kernel_rfl) ?_
    rw [hV] at b0 ⊢
    clear hV
    have hC0 : V.cell? ⟨X4.heap.size + 1, 0, none⟩ = some (.int .i64 (k : Int)) ∧ V.cell? ⟨X4.heap.size, 0, none⟩ = some (.slice (some ad7) L.length c7) ∧ V.cell? ⟨w.heap.size, 0, none⟩ = some (.int .i64 (k : Int)) ∧ V.cell? ⟨w.heap.size + 2 + 1 + 1, 0, none⟩ = some (.pointer (some ⟨w.heap.size + 2, 0, none⟩)) := ⟨pw_cell_below b0 c8, pw_cell_below b0 c7', pw_cell_below b0 cS, pw_cell_below b0 c5⟩
    clear c8 c7' cS c5
    apply wpH_callL (f := 10) (args := #[]) (fun _ => trivial) rfl rfl rfl hC0 rfl (fun c h => by cases h) (by kernel_rfl)
    refine callsIn_wide.2 ((known_call V).mono ?_)
    rintro ee V1 ⟨rfl, b1⟩
    refine ⟨_, rfl, ?_⟩
    simp only [List.set_cons_zero, List.set_cons_succ]
    have hC1 : V1.cell? ⟨X4.heap.size + 1, 0, none⟩ = some (.int .i64 (k : Int)) ∧ V1.cell? ⟨X4.heap.size, 0, none⟩ = some (.slice (some ad7) L.length c7) ∧ V1.cell? ⟨w.heap.size, 0, none⟩ = some (.int .i64 (k : Int)) ∧ V1.cell? ⟨w.heap.size + 2 + 1 + 1, 0, none⟩ = some (.pointer (some ⟨w.heap.size + 2, 0, none⟩)) := ⟨pw_cell_below b1 hC0.1, pw_cell_below b1 hC0.2.1, pw_cell_below b1 hC0.2.2.1, pw_cell_below b1 hC0.2.2.2⟩
    have b01 : Below W.heap.size W V1 := b0.trans (b1.mono b0.size)
    have H1 := Lib.hid (And.intro (HW.out.1.below b01) (And.intro (HW.out.2.1.below b01) (And.intro (show Boxed V1 (w.heap.size + 1) 4 (.bool false) from (b01.block _ HW.out.2.2.1.lt).trans HW.out.2.2.1) (And.intro (HW.out.2.2.2.1.trans (b01.mono HW.out.2.2.2.1.size)) (And.intro ((b01.block _ (Array.getElem?_eq_some_iff.1 HW.out.2.2.2.2.1).1).trans HW.out.2.2.2.2.1) (HW.out.2.2.2.2.2.1.step (T' := fun b => b = w.heap.size + 2 ∨ b = X4.heap.size + 1) (Stab.of_below (T := fun b => b = w.heap.size + 2 ∨ b = X4.heap.size + 1) (n := 0) b01) (fun b hb => .inl hb)))))))
    clear b0 b1 b01 hC0
    have e1 : wrap64 ((k : Int) + 1) = (k : Int) + 1 := kw2 (Nat.lt_of_lt_of_le hk (Nat.le_trans hlen (by decide)))
    have e2 : IntKind.i64.wrap ((k : Int) + 1) = (k : Int) + 1 := kw' (Nat.lt_of_lt_of_le hk (Nat.le_trans hlen (by decide)))
    have e4 : ((k : Int) + 1).toNat = k + 1 := rfl
    have e3 : (0 ≤ (k : Int) + 1 ∧ (k : Int) + 1 ≤ (c7 : Int)) = True := kc (Nat.lt_of_lt_of_le hk hc7)
    have e6 : (0 ≤ (k : Int) + 1 ∧ (k : Int) + 1 ≤ (L.length : Int)) = True := kc hk
    have e7 : (k + 1 ≤ L.length) = True := eq_true hk
    iterate 13 (apply wpH_readL _ rfl rfl rfl; (· (intro w' hw'; obtain ⟨r1, r2, r3, r4⟩ := hw'; go_simp; exact ⟨rfl, rfl⟩)); simp only [List.set_cons_zero, List.set_cons_succ])
    clear e1 e2 e3 e4 e6 e7
    apply wpH_callL (f := 13) (args := #[.pointer (some ⟨w.heap.size + 2, 0, none⟩)]) (fun _ => trivial) rfl rfl rfl hC1 rfl (fun c h => by cases h) (by kernel_rfl)
    refine callsIn_wide.2 ((fedL H1.out.1).mono ?_)
    rintro ee V2 ⟨rfl, rfl⟩
    refine ⟨_, rfl, ?_⟩
    simp only [List.set_cons_zero, List.set_cons_succ]
    have g1 : (0 ≤ (e : Int) ∧ (e : Int) ≤ (la.length : Int)) = True := eq_true ⟨by omega, by omega⟩
    have g2 : (e ≤ la.length) = True := eq_true he
    have g3 : ((e : Int)).toNat = e := rfl
    apply wpH_readL _ rfl rfl rfl
    · intro w' hw'; clear hw'; go_simp; exact ⟨rfl, rfl⟩
    simp only [List.set_cons_zero, List.set_cons_succ]
    clear g1 g2 g3
    have hll : (la.drop e).length = la.length - e := List.length_drop
    have hPc : (Kd.int .u8).C w (if cap0 = e then some ad0 else some (ad0.add e)) (la.drop e).length (la.drop e) := by
      have := piece_if HD.out he hca
      rw [show (Kd.int .u8).sz = 1 from rfl, Nat.mul_one] at this
      rwa [hll]
    have hF := feedL w V2 (w.heap.size + 2) (if cap0 = e then some ad0 else some (ad0.add e)) (cap0 - e) (la.drop e) (.slice none 0 0) [] 0 e H1.out.1 H1.out.2.2.2.1 (by omega) (by omega) hPc
    rw [hll] at hF
    apply wpH_callL (f := 11) (args := #[.pointer (some ⟨w.heap.size + 2, 0, none⟩), .slice (if cap0 = e then some ad0 else some (ad0.add e)) (la.length - e) (cap0 - e)]) (fun _ => trivial) rfl rfl rfl hC1 rfl (fun c h => by cases h) (by kernel_rfl)
    refine callsIn_wide.2 (hF.mono ?_)
    rintro ee V3 ⟨v3, vh3, rfl, L3, S3, b3, s3, o3⟩
    obtain ⟨A3, c3, ev⟩ := S3.slice
    rw [HW.out.2.2.2.2.2.2.1, hdL] at ev
    subst ev
    refine ⟨_, rfl, ?_⟩
    simp only [List.set_cons_zero, List.set_cons_succ]
    have hown : ∀ b, Own (w.heap.size + 2) (.slice none 0 0) b → b = w.heap.size + 2 := fun b h => own_new h
    have M3 := H1.out.2.1.step s3 (fun b h1 h2 => hdis b h1 (.inl (hown b h2)))
    have S7 := H1.out.2.2.2.2.2.step (W' := V3) (n := V2.heap.size) (T' := fun b => b = w.heap.size + 2 ∨ b = X4.heap.size + 1) ⟨s3.os, s3.tape, s3.output, s3.size, fun q o h1 h2 h3 => s3.same q o h1 (fun h => h2 (.inl (hown q h))) h3⟩ (fun b hb => .inl hb)
    have bR3 : Boxed V3 (w.heap.size + 1) 4 (.bool false) := boxed_stab H1.out.2.2.1 s3 (fun h => by have := hown _ h; omega)
    have hd3 : V3.heap[D]? = some (.deferred (some [])) := s3.same _ _ H1.out.2.2.2.2.1 (fun h => by have := hown _ h; omega) (.inr (Array.getElem?_eq_some_iff.1 H1.out.2.2.2.2.1).1)
    have hC3 : V3.cell? ⟨X4.heap.size + 1, 0, none⟩ = some (.int .i64 (k : Int)) ∧ V3.cell? ⟨X4.heap.size, 0, none⟩ = some (.slice (some ad7) L.length c7) ∧ V3.cell? ⟨w.heap.size, 0, none⟩ = some (.int .i64 (k : Int)) ∧ V3.cell? ⟨w.heap.size + 2 + 1 + 1, 0, none⟩ = some (.pointer (some ⟨w.heap.size + 2, 0, none⟩)) := ⟨s3.cell hC1.1 (fun h => by have := hown _ h; simp at this; omega), s3.cell hC1.2.1 (fun h => by have := hown _ h; simp at this; omega), s3.cell hC1.2.2.1 (fun h => by have := hown _ h; simp at this), s3.cell hC1.2.2.2 (fun h => by have := hown _ h; simp at this)⟩
    have C7 : Kd.C P.k39 V3 (if c7 = k + 1 then some ad7 else some (ad7.add ((k + 1) * 4))) (L.length - (k + 1)) (L.drop (k + 1)) := piece_if (S7.C (by omega)) hk hc7
    have S3' := S3
    rw [HW.out.2.2.2.2.2.2.1] at S3'
    have hsame : Calls Try.prog 17 #[.slice A3 (L.length - (k + 1)) c3, .slice (if c7 = k + 1 then some ad7 else some (ad7.add ((k + 1) * 4))) (L.length - (k + 1)) (c7 - (k + 1))] V3 fun e w' => e = .returned (.bool true) ∧ Below V3.heap.size V3 w' := by
      rw [← hdL] at C7 S3' ⊢
      exact same_call V3 A3 _ c3 _ (L.drop (k + 1)) (S3'.C (by omega)) C7 (by omega)
    have hfe : e + (la.length - e) = la.length := by omega
    rw [hfe] at L3
    have H3 := Lib.hid (And.intro L3 (And.intro M3 (And.intro bR3 (And.intro b3 hd3))))
    clear L3 M3 S7 bR3 hd3 b3 s3 o3 S3 S3' C7 hC1 H1 hF hPc
    apply wpH_callL (f := 17) (args := #[.slice A3 (L.length - (k + 1)) c3, .slice (if c7 = k + 1 then some ad7 else some (ad7.add ((k + 1) * 4))) (L.length - (k + 1)) (c7 - (k + 1))]) (fun _ => trivial) rfl rfl rfl hC3 rfl (fun c h => by cases h) (by kernel_rfl)
    refine callsIn_wide.2 (hsame.mono ?_)
    rintro ee V4 ⟨rfl, b4⟩
    refine ⟨_, rfl, ?_⟩
    simp only [List.set_cons_zero, List.set_cons_succ]
    have hC4 : V4.cell? ⟨X4.heap.size + 1, 0, none⟩ = some (.int .i64 (k : Int)) ∧ V4.cell? ⟨X4.heap.size, 0, none⟩ = some (.slice (some ad7) L.length c7) ∧ V4.cell? ⟨w.heap.size, 0, none⟩ = some (.int .i64 (k : Int)) ∧ V4.cell? ⟨w.heap.size + 2 + 1 + 1, 0, none⟩ = some (.pointer (some ⟨w.heap.size + 2, 0, none⟩)) := ⟨pw_cell_below b4 hC3.1, pw_cell_below b4 hC3.2.1, pw_cell_below b4 hC3.2.2.1, pw_cell_below b4 hC3.2.2.2⟩
    have bR4 : Boxed V4 (w.heap.size + 1) 4 (.bool false) := (b4.block _ H3.out.2.2.1.lt).trans H3.out.2.2.1
    have cR4 := bR4.cell
    have fR4 := bR4.frozen
    have H4' := Lib.hid (And.intro (H3.out.1.below b4) (And.intro (H3.out.2.1.below b4) (And.intro bR4 (And.intro (H3.out.2.2.2.1.trans (b4.mono H3.out.2.2.2.1.size)) ((b4.block _ (Array.getElem?_eq_some_iff.1 H3.out.2.2.2.2).1).trans H3.out.2.2.2.2)))))
    clear H3 hC3 hsame b4 bR4
    iterate 4 (apply wpH_readL _ rfl rfl rfl; (· (intro w' hw'; obtain ⟨r1, r2, r3, r4⟩ := hw'; go_simp; exact ⟨rfl, rfl⟩)); simp only [List.set_cons_zero, List.set_cons_succ])
    apply wpH_callL (f := 13) (args := #[.pointer (some ⟨w.heap.size + 2, 0, none⟩)]) (fun _ => trivial) rfl rfl rfl hC4 rfl (fun c h => by cases h) (by kernel_rfl)
    refine callsIn_wide.2 ((fedL H4'.out.1).mono ?_)
    rintro ee V5 ⟨rfl, rfl⟩
    refine ⟨_, rfl, ?_⟩
    simp only [List.set_cons_zero, List.set_cons_succ]
    apply wpH_callL (f := 13) (args := #[.pointer (some ⟨w.heap.size + 2 + 1, 0, none⟩)]) (fun _ => trivial) rfl rfl rfl hC4 rfl (fun c h => by cases h) (by kernel_rfl)
    refine callsIn_wide.2 ((fedL H4'.out.2.1).mono ?_)
    rintro ee V6 ⟨rfl, rfl⟩
    refine ⟨_, rfl, ?_⟩
    simp only [List.set_cons_zero, List.set_cons_succ]
    iterate 2 (apply wpH_readL _ rfl rfl rfl; (· (intro w' hw'; obtain ⟨r1, r2, r3, r4⟩ := hw'; go_simp; exact ⟨rfl, rfl⟩)); simp only [List.set_cons_zero, List.set_cons_succ])
    apply wpH_storeL (w' := V6.setCell ⟨w.heap.size + 1, 0, none⟩ (.bool true)) (fun _ => trivial) rfl rfl hC4 rfl (fun c h => by cases h)
    · go_simp
    refine wpH_end ⟨by rw [World.cell?_setCell_other _ _ _ _ (by first | (simp; done) | (simp; omega))]; exact hC4.1, by rw [World.cell?_setCell_other _ _ _ _ (by first | (simp; done) | (simp; omega))]; exact hC4.2.1, by rw [World.cell?_setCell_other _ _ _ _ (by simp)]; exact hC4.2.2.1, by rw [World.cell?_setCell_other _ _ _ _ (by simp)]; exact hC4.2.2.2⟩ ?_
    generalize (if cap0 = e then some ad0 else some (ad0.add e)) = A0'
    generalize (if c7 = k + 1 then some ad7 else some (ad7.add ((k + 1) * 4))) = A7'
    go_wp2_with (fail)
    exact ech_ret H4'.out.2.2.1 H4'.out.2.2.2.1 H4'.out.2.2.2.2 (by omega) rfl
end Go.Proofs.Ytmkhhnhoodneeaa.P
