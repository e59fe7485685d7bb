/- A nil scanner finds nothing: ScanNil answers true for all inputs. -/
import Derived.Test.YtmkhhnhoodneeaaKno
set_option linter.unusedVariables false
set_option linter.unusedSimpArgs false
namespace Go.Proofs.Ytmkhhnhoodneeaa.P
open Go.RowKit Go.Proofs.YtmkhhnhoodneeaaW.PrintWords Go.Proofs.YtmkhhnhoodneeaaW.PrintMore Go.Proofs.Ytmkhhnhoodneeaa
attribute [local go_sem] Oper.semAt_some

theorem eql_nil (f : Fn) (fi ca : Array Value) (w : World) : (binOp .eql 25 (.func f fi ca) .nilFunc).run Try.prog w = .ok (.bool false) w := by
  kernel_rfl
attribute [local go_sem] eql_nil

theorem each_nil (w : World) (Bs Bb : Nat) (hS : Boxed w Bs 23 (.pointer none)) :
    Iter Try.prog 20 #[.pointer (some ⟨Bs, 0, none⟩), .pointer (some ⟨Bb, 0, none⟩)] 0 NoT (fun b => b = Bs) (fun _ => False) (fun _ _ _ _ _ => False) (fun _ _ _ _ => True) w := by
  intro l' J Jx W hW hY h0
  have hSW : Boxed W Bs 23 (.pointer none) := hW.same _ _ hS (.inl rfl)
  have cS := hSW.cell
  have HJ := Lib.hid h0
  clear hY h0 hS hSW
  show Calls Try.prog 20 #[.func (.yield l') #[] #[], .pointer (some ⟨Bs, 0, none⟩), .pointer (some ⟨Bb, 0, none⟩)] W _
  go_enter Try.func20, Try.ntmps20
  go_wp2_with (fail)
  go_step3
  go_wp2_with (fail)
  rw [Exit.noGoto_ret]
  refine bodyPost_ret (results_none rfl _ _ _) rfl ⟨⟨_, rfl⟩, (fun _ => False), (fun _ => False), W, 0, noT, fun _ h => .inl h, Stab.refl _ _ _, .inl ⟨rfl, HJ.out, trivial⟩⟩

set_option maxRecDepth 100000 in
set_option maxHeartbeats 4000000 in
theorem feed_nil (w : World) (A : Option Addr) (n c : Nat) : Calls Try.prog 11 #[.pointer none, .slice A n c] w fun e w' => e = .returned (.slice none 0 0) ∧ Below w.heap.size w w' := by
  refine (callsIn_wide (n := 5)).1 (callsIn_of_wp_marks Try.func11 rfl trivial ?_ rfl)
  simp only [Try.ntmps11, List.size_toArray, List.length_cons, List.length_nil, Nat.reduceAdd, Nat.reduceSub, Array.replicate_succ, Array.replicate_zero, List.push_toArray, List.append_toArray, List.nil_append, List.cons_append]
  refine wpIn_wide.2 ?_
  go_wp2_with (go_at_call 9; refine (each_call _ _ _ rfl _ _ _ _ rfl).mono ?_; rintro e w' ⟨rfl, rfl⟩)
  have hbY : Below w.heap.size w (((w.alloc (.cells #[.slice none 0 0] 28)).alloc (.cells #[.pointer none] 23)).alloc (.cells #[.slice A n c] 22)) := (((Below.refl _ w).alloc (Nat.le_refl _) _).alloc (by simp) _).alloc (by simp; omega) _
  obtain ⟨Y, hY⟩ : ∃ Y, (((w.alloc (.cells #[.slice none 0 0] 28)).alloc (.cells #[.pointer none] 23)).alloc (.cells #[.slice A n c] 22)) = Y := ⟨_, rfl⟩
  have hsY : Y.heap.size = w.heap.size + 3 := by rw [← hY]; simp
  have bO : Boxed Y w.heap.size 28 (.slice none 0 0) := by rw [← hY]; exact ((Boxed.new w 28 _).alloc _).alloc _
  have bP : Boxed Y (w.heap.size + 1) 23 (.pointer none) := by rw [← hY]; have := (Boxed.new (w.alloc (.cells #[.slice none 0 0] 28)) 23 (.pointer none)).alloc (.cells #[.slice A n c] 22); rwa [World.size_alloc] at this
  rw [hY] at hbY ⊢
  clear hY
  refine wp_range0 (gf := 20) (lb := #[.pointer (some ⟨w.heap.size + 1, 0, none⟩), .pointer (some ⟨w.heap.size + 2, 0, none⟩)]) rfl (enters_of Try.func20 (by kernel_rfl) rfl)
    (each_nil Y (w.heap.size + 1) (w.heap.size + 2) bP) (fun b hb => by omega) (fun k vs T B W h => h.elim)
    (fun k W => Boxed W w.heap.size 28 (.slice none 0 0) ∧ Below w.heap.size w W) (fun _ _ _ => False) ?hI (fun _ _ _ _ h _ => h) ⟨bO, hbY⟩ ?round ?done ?stop
  case hI =>
    rintro k W W' ⟨h1, h2⟩ hs
    exact ⟨boxed_stab h1 hs (fun h => h), hs.below h2 (by omega) h2.size (fun _ _ h => h)⟩
  case round =>
    rintro l n k T W0 X vs hk
    omega
  case done =>
    rintro D W ⟨h1, h2⟩ hD hd
    have hcb := h1.cell
    have HH := Lib.hid (And.intro h2 hd)
    clear h1 h2 hd
    go_wp2_with (fail)
    refine marks_ret (v := .slice none 0 0) (by simp [results, Try.results11, Act.put, go_sem]) (by simp [Act.put]) HH.out.2 ⟨rfl, ?_⟩
    exact (stab_shut (T := fun _ => False) (n := w.heap.size) HH.out.2 (by omega)).below HH.out.1 (Nat.le_refl _) HH.out.1.size (fun _ _ h => h)
  case stop =>
    rintro D c k W _ h
    exact h.elim

set_option maxRecDepth 100000 in
set_option maxHeartbeats 4000000 in
theorem cuneiformlaw09_ScanNil.walk (a0 : Option Addr) (len0 cap0 : Nat) (z0 : List Int) (w : World) (w0 : (a0 = none ∧ len0 = 0 ∧ cap0 = 0 ∧ z0 = []) ∨ ∃ x, a0 = some x ∧ len0 ≤ cap0 ∧ cap0 ≤ maxLen ∧ z0.length = cap0 ∧ (∀ i, i < z0.length → w.cell? (x.add i) = some (.int .u8 (z0.getD i 0))) ∧ ∀ n ∈ z0, (Lit.int .u8 n).wf = true) (y0 : len0 * 1 ≤ 140737488351232) :
    Calls Try.prog 3 #[.slice a0 len0 cap0] w fun e w' => e = .returned (.bool true) ∧ Below w.heap.size w w' := by
  clear w0 y0
  refine (callsIn_wide (n := 5)).1 (callsIn_of_wp_marks Try.func3 rfl trivial ?_ rfl)
  simp only [Try.ntmps3, List.size_toArray, List.length_cons, List.length_nil, Nat.reduceAdd, Nat.reduceSub, Array.replicate_succ, Array.replicate_zero, List.push_toArray, List.append_toArray, List.nil_append, List.cons_append]
  refine wpIn_wide.2 ?_
  go_wp2_with (fail)
  refine (reset_nil w).mono ?_
  rintro e w1 ⟨⟨v, rfl⟩, rfl⟩
  go_wp2_with (go_at_call 9; refine (each_call _ _ _ rfl _ _ _ _ rfl).mono ?_; rintro e w' ⟨rfl, rfl⟩)
  have hbY : Below w1.heap.size w1 (((w1.alloc (.cells #[.int .i64 0] 3)).alloc (.cells #[.pointer none] 23)).alloc (.cells #[.slice a0 len0 cap0] 22)) := (((Below.refl _ w1).alloc (Nat.le_refl _) _).alloc (by simp) _).alloc (by simp; omega) _
  obtain ⟨Y, hY⟩ : ∃ Y, (((w1.alloc (.cells #[.int .i64 0] 3)).alloc (.cells #[.pointer none] 23)).alloc (.cells #[.slice a0 len0 cap0] 22)) = Y := ⟨_, rfl⟩
  have hsY : Y.heap.size = w1.heap.size + 3 := by rw [← hY]; simp
  have bO : Boxed Y w1.heap.size 3 (.int .i64 0) := by rw [← hY]; exact ((Boxed.new w1 3 _).alloc _).alloc _
  have bP : Boxed Y (w1.heap.size + 1) 23 (.pointer none) := by rw [← hY]; have := (Boxed.new (w1.alloc (.cells #[.int .i64 0] 3)) 23 (.pointer none)).alloc (.cells #[.slice a0 len0 cap0] 22); rwa [World.size_alloc] at this
  rw [hY] at hbY ⊢
  clear hY
  refine wp_range0 (gf := 20) (lb := #[.pointer (some ⟨w1.heap.size + 1, 0, none⟩), .pointer (some ⟨w1.heap.size + 2, 0, none⟩)]) rfl (enters_of Try.func20 (by kernel_rfl) rfl)
    (each_nil Y (w1.heap.size + 1) (w1.heap.size + 2) bP) (fun b hb => by omega) (fun k vs T B W h => h.elim)
    (fun k W => Boxed W w1.heap.size 3 (.int .i64 0) ∧ Below w1.heap.size w1 W) (fun _ _ _ => False) ?hI (fun _ _ _ _ h _ => h) ⟨bO, hbY⟩ ?round ?done ?stop
  case hI =>
    rintro k W W' ⟨h1, h2⟩ hs
    exact ⟨boxed_stab h1 hs (fun h => h), hs.below h2 (by omega) h2.size (fun _ _ h => h)⟩
  case round =>
    rintro l n k T W0 X vs hk
    omega
  case done =>
    rintro D W ⟨h1, h2⟩ hD hd
    have HH := Lib.hid (And.intro h2 (And.intro hd h1))
    clear h1 h2 hd
    go_wp2_with (fail)
    refine (known_call W).mono ?_
    rintro e W1 ⟨rfl, b1⟩
    go_wp2_with (fail)
    refine (feed_nil W1 _ _ _).mono ?_
    rintro e W2 ⟨rfl, b2⟩
    have bb : Below W.heap.size W W2 := b1.trans (b2.mono b1.size)
    have hbx : Boxed W2 w1.heap.size 3 (.int .i64 0) := (bb.block _ HH.out.2.2.lt).trans HH.out.2.2
    have hcb := hbx.cell
    have hd2 : W2.heap[D]? = some (.deferred (some [])) := (bb.block _ (Array.getElem?_eq_some_iff.1 HH.out.2.1).1).trans HH.out.2.1
    have hbw : Below w1.heap.size w1 W2 := HH.out.1.trans (bb.mono HH.out.1.size)
    have H2 := Lib.hid (And.intro hbw hd2)
    clear b1 b2 bb hbx hd2 hbw
    go_wp2_with (fail)
    refine (held_nil W2).mono ?_
    rintro e W3 ⟨rfl, rfl⟩
    go_wp2_with (fail)
    refine (fed_nil _).mono ?_
    rintro e W4 ⟨rfl, rfl⟩
    go_wp2_with (fail)
    refine (open_nil _).mono ?_
    rintro e W5 ⟨rfl, rfl⟩
    go_wp2_with (fail)
    refine (copy_nil _).mono ?_
    rintro e W6 ⟨rfl, rfl⟩
    go_wp2_with (fail)
    refine marks_ret (v := .bool true) (by simp [results, Try.results3, Act.put, go_sem]) (by simp [Act.put]) H2.out.2 ⟨rfl, ?_⟩
    exact (stab_shut (T := fun _ => False) (n := w1.heap.size) H2.out.2 (by omega)).below H2.out.1 (Nat.le_refl _) H2.out.1.size (fun _ _ h => h)
  case stop =>
    rintro D c k W _ h
    exact h.elim
end Go.Proofs.Ytmkhhnhoodneeaa.P
