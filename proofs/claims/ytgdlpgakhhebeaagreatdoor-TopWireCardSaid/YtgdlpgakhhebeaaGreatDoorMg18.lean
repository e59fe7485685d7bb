/- Part 18 of the proof of TopWire: Mwo, Msm, St, Mck. -/
import Derived.ChangeKeysEq
import Derived.Lib.SlicesS
import Derived.Test.YtgdlpgakhhebeaaGreatDoorMg17
section
set_option linter.unusedVariables false
set_option linter.unusedSimpArgs false
namespace Go.Proofs.YtgdlpgakhhebeaaGreatDoor
open Go.RowKit Go.Proofs.YtgdlpgakhhebeaaGreatDoorW.PrintWords Go.Proofs.YtgdlpgakhhebeaaGreatDoorW.PrintMore
attribute [local go_sem] Oper.semAt_some

/-- A row that is another's, or nil. -/
def Rw {α : Type} (xs : List α) (A : Option Addr) (c : Nat) (ys : List α) (B : Option Addr) (d : Nat) : Prop := (ys = xs ∧ B = A ∧ d = c) ∨ (ys = [] ∧ B = none ∧ d = 0)
theorem Rw.refl {α : Type} (xs : List α) (A : Option Addr) (c : Nat) : Rw xs A c xs A c := .inl ⟨rfl, rfl, rfl⟩
theorem Rw.nil {α : Type} (xs : List α) (A : Option Addr) (c : Nat) : Rw xs A c [] none 0 := .inr ⟨rfl, rfl, rfl⟩
theorem Rw.trans {α : Type} {xs ys zs : List α} {A B C : Option Addr} {c d e : Nat} (h : Rw xs A c ys B d) (k : Rw ys B d zs C e) : Rw xs A c zs C e := by
  rcases k with ⟨rfl, rfl, rfl⟩ | ⟨rfl, rfl, rfl⟩
  · exact h
  · exact .nil _ _ _
theorem C_nil {α : Type} (d : Kd α) (w : World) : d.C w none 0 [] := ⟨rfl, by omega, fun h => absurd h (by omega)⟩
theorem Rw.msr {w : World} {m m' : Ms} {Ap Ac Ap' Ac' : Option Addr} {cp cc cp' cc' : Nat} (h : MsR w m Ap cp Ac cc) (hp : Rw m.path Ap cp m'.path Ap' cp') (hc : Rw m.cells Ac cc m'.cells Ac' cc') : MsR w m' Ap' cp' Ac' cc' := by
  obtain ⟨h1, h2, h3, h4⟩ := h
  have e1 : m'.path.length ≤ cp' ∧ Kd.C P.k217 w Ap' m'.path.length m'.path := by
    rcases hp with ⟨e, rfl, rfl⟩ | ⟨e, rfl, rfl⟩ <;> rw [e]
    · exact ⟨h1, h3⟩
    · exact ⟨Nat.le_refl _, C_nil _ _⟩
  have e2 : m'.cells.length ≤ cc' ∧ Kd.C (Kd.int .i64) w Ac' m'.cells.length m'.cells := by
    rcases hc with ⟨e, rfl, rfl⟩ | ⟨e, rfl, rfl⟩ <;> rw [e]
    · exact ⟨h2, h4⟩
    · exact ⟨Nat.le_refl _, C_nil _ _⟩
  exact ⟨e1.1, e2.1, e1.2, e2.2⟩
set_option maxRecDepth 100000 in
set_option maxHeartbeats 1000000 in
theorem without_call (m : Ms) (f : P.S150) (hf : okF f) (w : World) (Ap : Option Addr) (cp : Nat) (Ac : Option Addr) (cc : Nat) :
    Calls Tryz.prog 56 #[mV m Ap cp Ac cc, fV f] w fun e w' => ∃ Ap' cp' Ac' cc', e = .returned (mV (withoutM m f) Ap' cp' Ac' cc') ∧ Rw m.path Ap cp (withoutM m f).path Ap' cp' ∧ Rw m.cells Ac cc (withoutM m f).cells Ac' cc' ∧ Below w.heap.size w w' := by
  have HX : Hid (withoutM m f = _) := Lib.hid (by unfold withoutM; rfl)
  have HF := Lib.hid hf
  clear hf
  generalize withoutM m f = R at *
  unfold mV Ms.cs fV
  by_cases c3 : f.f1 = 3
  · rw [if_pos c3] at HX
    rw [HX.out]
    obtain ⟨f0, f1, f2, f3, f4, f5, f6⟩ := f
    obtain ⟨k, n0, n1, n2, n3, n4, n5, path, cells, text, tag⟩ := m
    simp only at *
    subst c3
    clear HX HF
    go_enter Tryz.func56, Tryz.ntmps56
    go_wp2_with (fail)
    refine bodyPost_ret (v := .agg #[.int .i64 k, .int .i64 n0, .int .i64 n1, .int .i64 n2, .int .i64 n3, .int .i64 n4, .int .i64 n5, .slice none 0 0, .slice Ac cells.length cc, .string text, .string tag]) (by simp [results, Tryz.results56, go_sem]) rfl ⟨none, 0, Ac, cc, rfl, .nil _ _ _, .refl _ _ _, ?_⟩
    exact (((Below.refl _ w).alloc (Nat.le_refl _) _).alloc (by simp) _).alloc (by simp; omega) _
  rw [if_neg c3] at HX
  by_cases c4 : f.f1 = 4
  · rw [if_pos c4] at HX
    rw [HX.out]
    obtain ⟨f0, f1, f2, f3, f4, f5, f6⟩ := f
    obtain ⟨k, n0, n1, n2, n3, n4, n5, path, cells, text, tag⟩ := m
    simp only at *
    subst c4
    clear HX HF
    go_enter Tryz.func56, Tryz.ntmps56
    go_wp2_with (fail)
    refine bodyPost_ret (v := .agg #[.int .i64 k, .int .i64 n0, .int .i64 n1, .int .i64 n2, .int .i64 n3, .int .i64 n4, .int .i64 n5, .slice Ap path.length cp, .slice none 0 0, .string text, .string tag]) (by simp [results, Tryz.results56, go_sem]) rfl ⟨Ap, cp, none, 0, rfl, .refl _ _ _, .nil _ _ _, ?_⟩
    exact (((Below.refl _ w).alloc (Nat.le_refl _) _).alloc (by simp) _).alloc (by simp; omega) _
  rw [if_neg c4] at HX
  by_cases c5 : f.f1 = 5
  · rw [if_pos c5] at HX
    rw [HX.out]
    obtain ⟨f0, f1, f2, f3, f4, f5, f6⟩ := f
    obtain ⟨k, n0, n1, n2, n3, n4, n5, path, cells, text, tag⟩ := m
    simp only at *
    subst c5
    clear HX HF
    go_enter Tryz.func56, Tryz.ntmps56
    go_wp2_with (fail)
    refine bodyPost_ret (v := .agg #[.int .i64 k, .int .i64 n0, .int .i64 n1, .int .i64 n2, .int .i64 n3, .int .i64 n4, .int .i64 n5, .slice Ap path.length cp, .slice Ac cells.length cc, .string ⟨#[]⟩, .string tag]) (by simp [results, Tryz.results56, go_sem]) rfl ⟨Ap, cp, Ac, cc, rfl, .refl _ _ _, .refl _ _ _, ?_⟩
    exact (((Below.refl _ w).alloc (Nat.le_refl _) _).alloc (by simp) _).alloc (by simp; omega) _
  rw [if_neg c5] at HX
  by_cases c6 : f.f1 = 6
  · rw [if_pos c6] at HX
    rw [HX.out]
    obtain ⟨f0, f1, f2, f3, f4, f5, f6⟩ := f
    obtain ⟨k, n0, n1, n2, n3, n4, n5, path, cells, text, tag⟩ := m
    simp only at *
    subst c6
    clear HX HF
    go_enter Tryz.func56, Tryz.ntmps56
    go_wp2_with (fail)
    refine bodyPost_ret (v := .agg #[.int .i64 k, .int .i64 n0, .int .i64 n1, .int .i64 n2, .int .i64 n3, .int .i64 n4, .int .i64 n5, .slice Ap path.length cp, .slice Ac cells.length cc, .string text, .string ⟨#[]⟩]) (by simp [results, Tryz.results56, go_sem]) rfl ⟨Ap, cp, Ac, cc, rfl, .refl _ _ _, .refl _ _ _, ?_⟩
    exact (((Below.refl _ w).alloc (Nat.le_refl _) _).alloc (by simp) _).alloc (by simp; omega) _
  rw [if_neg c6] at HX
  have hN : 0 ≤ f.f2 ∧ f.f2 < 6 := by
    have hf := HF.out
    unfold okF at hf
    rcases hf with h | h | h | h | h | h
    · exact h.2.1
    · exact h.2.1
    · exact absurd h.1 c3
    · exact absurd h.1 c4
    · exact absurd h.1 c5
    · exact absurd h.1 c6
  rw [HX.out]
  obtain ⟨f0, f1, f2, f3, f4, f5, f6⟩ := f
  obtain ⟨k, n0, n1, n2, n3, n4, n5, path, cells, text, tag⟩ := m
  simp only at *
  have hN2 : f2 = 0 ∨ f2 = 1 ∨ f2 = 2 ∨ f2 = 3 ∨ f2 = 4 ∨ f2 = 5 := by omega
  clear hN HF HX
  rcases hN2 with rfl | rfl | rfl | rfl | rfl | rfl
  · go_enter Tryz.func56, Tryz.ntmps56
    go_wp2_with (fail)
    refine bodyPost_ret (v := .agg #[.int .i64 k, .int .i64 0, .int .i64 n1, .int .i64 n2, .int .i64 n3, .int .i64 n4, .int .i64 n5, .slice Ap path.length cp, .slice Ac cells.length cc, .string text, .string tag]) (by simp [results, Tryz.results56, go_sem]) rfl ⟨Ap, cp, Ac, cc, rfl, .refl _ _ _, .refl _ _ _, ?_⟩
    exact (((Below.refl _ w).alloc (Nat.le_refl _) _).alloc (by simp) _).alloc (by simp; omega) _
  · go_enter Tryz.func56, Tryz.ntmps56
    go_wp2_with (fail)
    refine bodyPost_ret (v := .agg #[.int .i64 k, .int .i64 n0, .int .i64 0, .int .i64 n2, .int .i64 n3, .int .i64 n4, .int .i64 n5, .slice Ap path.length cp, .slice Ac cells.length cc, .string text, .string tag]) (by simp [results, Tryz.results56, go_sem]) rfl ⟨Ap, cp, Ac, cc, rfl, .refl _ _ _, .refl _ _ _, ?_⟩
    exact (((Below.refl _ w).alloc (Nat.le_refl _) _).alloc (by simp) _).alloc (by simp; omega) _
  · go_enter Tryz.func56, Tryz.ntmps56
    go_wp2_with (fail)
    refine bodyPost_ret (v := .agg #[.int .i64 k, .int .i64 n0, .int .i64 n1, .int .i64 0, .int .i64 n3, .int .i64 n4, .int .i64 n5, .slice Ap path.length cp, .slice Ac cells.length cc, .string text, .string tag]) (by simp [results, Tryz.results56, go_sem]) rfl ⟨Ap, cp, Ac, cc, rfl, .refl _ _ _, .refl _ _ _, ?_⟩
    exact (((Below.refl _ w).alloc (Nat.le_refl _) _).alloc (by simp) _).alloc (by simp; omega) _
  · go_enter Tryz.func56, Tryz.ntmps56
    go_wp2_with (fail)
    refine bodyPost_ret (v := .agg #[.int .i64 k, .int .i64 n0, .int .i64 n1, .int .i64 n2, .int .i64 0, .int .i64 n4, .int .i64 n5, .slice Ap path.length cp, .slice Ac cells.length cc, .string text, .string tag]) (by simp [results, Tryz.results56, go_sem]) rfl ⟨Ap, cp, Ac, cc, rfl, .refl _ _ _, .refl _ _ _, ?_⟩
    exact (((Below.refl _ w).alloc (Nat.le_refl _) _).alloc (by simp) _).alloc (by simp; omega) _
  · go_enter Tryz.func56, Tryz.ntmps56
    go_wp2_with (fail)
    refine bodyPost_ret (v := .agg #[.int .i64 k, .int .i64 n0, .int .i64 n1, .int .i64 n2, .int .i64 n3, .int .i64 0, .int .i64 n5, .slice Ap path.length cp, .slice Ac cells.length cc, .string text, .string tag]) (by simp [results, Tryz.results56, go_sem]) rfl ⟨Ap, cp, Ac, cc, rfl, .refl _ _ _, .refl _ _ _, ?_⟩
    exact (((Below.refl _ w).alloc (Nat.le_refl _) _).alloc (by simp) _).alloc (by simp; omega) _
  · go_enter Tryz.func56, Tryz.ntmps56
    go_wp2_with (fail)
    refine bodyPost_ret (v := .agg #[.int .i64 k, .int .i64 n0, .int .i64 n1, .int .i64 n2, .int .i64 n3, .int .i64 n4, .int .i64 0, .slice Ap path.length cp, .slice Ac cells.length cc, .string text, .string tag]) (by simp [results, Tryz.results56, go_sem]) rfl ⟨Ap, cp, Ac, cc, rfl, .refl _ _ _, .refl _ _ _, ?_⟩
    exact (((Below.refl _ w).alloc (Nat.le_refl _) _).alloc (by simp) _).alloc (by simp; omega) _
end Go.Proofs.YtgdlpgakhhebeaaGreatDoor
end
section
set_option linter.unusedVariables false
set_option linter.unusedSimpArgs false
namespace Go.Proofs.YtgdlpgakhhebeaaGreatDoor
open Go.RowKit Go.Proofs.YtgdlpgakhhebeaaGreatDoorW.PrintWords Go.Proofs.YtgdlpgakhhebeaaGreatDoorW.PrintMore
attribute [local go_sem] Oper.semAt_some

theorem eqi_cons {P : Program} {d : Nat} {e : TypeId} {c : Nat} {xs ys : Array Value} {i : Nat} {is : List Nat} {a b : Value} {r s : Bool} {w : World} (ha : (part e xs (i * c)).run P w = .ok a w) (hb : (part e ys (i * c)).run P w = .ok b w) (he : (Op.equalIn d e a b).run P w = .ok r w) (hr : (Op.eqItems d e c xs ys is).run P w = .ok s w) :
    (Op.eqItems d e c xs ys (i :: is)).run P w = .ok (r && s) w := by
  simp only [Op.eqItems, Sem.run_bind, ha, hb, he, Result.andThen_ok]
  cases r
  · simp
  · simpa using hr
theorem eqi_nil {P : Program} {d : Nat} {e : TypeId} {c : Nat} {xs ys : Array Value} {w : World} : (Op.eqItems d e c xs ys []).run P w = .ok true w := by simp [Op.eqItems]
theorem eqA66 (d : Nat) (w : World) (x0 x1 x2 x3 x4 x5 y0 y1 y2 y3 y4 y5 : Int) :
    (Op.equalIn (d + 2) 66 (.agg #[.int .i64 x0, .int .i64 x1, .int .i64 x2, .int .i64 x3, .int .i64 x4, .int .i64 x5]) (.agg #[.int .i64 y0, .int .i64 y1, .int .i64 y2, .int .i64 y3, .int .i64 y4, .int .i64 y5])).run Tryz.prog w = .ok (x0 == y0 && (x1 == y1 && (x2 == y2 && (x3 == y3 && (x4 == y4 && (x5 == y5 && true)))))) w := by
  have hs : (Tryz.prog.info? 3).isSome = true := by kernel_rfl
  obtain ⟨i, hi⟩ := Option.isSome_iff_exists.1 hs
  rw [run_equalIn_array w (d + 1) _ _ (by kernel_rfl : Tryz.prog.underlying 66 = some (.array 6 3)) hi]
  have hc : Tryz.prog.cellsOf 3 = 1 := by kernel_rfl
  rw [hc, show List.range 6 = [0, 1, 2, 3, 4, 5] from rfl]
  refine eqi_cons (by go_simp; rfl) (by go_simp; rfl) (by go_simp) ?_
  refine eqi_cons (by go_simp; rfl) (by go_simp; rfl) (by go_simp) ?_
  refine eqi_cons (by go_simp; rfl) (by go_simp; rfl) (by go_simp) ?_
  refine eqi_cons (by go_simp; rfl) (by go_simp; rfl) (by go_simp) ?_
  refine eqi_cons (by go_simp; rfl) (by go_simp; rfl) (by go_simp) ?_
  refine eqi_cons (by go_simp; rfl) (by go_simp; rfl) (by go_simp) ?_
  exact eqi_nil
theorem al2_a (w : World) (a b : Obj) : ((w.alloc a).alloc b).heap[w.heap.size]? = some a := (Below.heap_alloc _ _ _ (by simp)).trans (World.alloc_heap_new w a)
theorem al2_b (w : World) (a b : Obj) : ((w.alloc a).alloc b).heap[w.heap.size + 1]? = some b := by
  have := World.alloc_heap_new (w.alloc a) b
  rwa [World.size_alloc] at this
set_option maxRecDepth 100000 in
set_option maxHeartbeats 2000000 in
theorem same_call (a b : Ms) (w : World) (Ap : Option Addr) (cp : Nat) (Ac : Option Addr) (cc : Nat) (Bp : Option Addr) (dp : Nat) (Bc : Option Addr) (dc : Nat) (ha : MsR w a Ap cp Ac cc) (hb : MsR w b Bp dp Bc dc) (hfp : a.path.length ≤ 1000) (hfc : a.cells.length ≤ 1000) :
    Calls Tryz.prog 50 #[mV a Ap cp Ac cc, mV b Bp dp Bc dc] w fun e w' => e = .returned (.bool (sameM a b)) ∧ Below w.heap.size w w' := by
  have HB : ∀ (x y : Obj), Below w.heap.size w ((w.alloc x).alloc y) := fun x y => ((Below.refl _ w).alloc (Nat.le_refl _) _).alloc (by simp) _
  have hp : ∀ W, Below w.heap.size w W → Calls Tryz.prog 86 #[.slice Ap a.path.length cp, .slice Bp b.path.length dp] W fun e w' => e = .returned (.bool (decide (a.path = b.path))) ∧ Drawn0 W w' := fun W hW =>
    P.msg_Point.calls 1002 Ap cp a.path Bp dp b.path (decide (a.path = b.path)) W (Kd.C_below ha.path hW) ha.lp (Kd.C_below hb.path hW) hb.lp (eqP _ _ hfp)
  have hc : ∀ W, Below w.heap.size w W → Calls Tryz.prog 87 #[.slice Ac a.cells.length cc, .slice Bc b.cells.length dc] W fun e w' => e = .returned (.bool (decide (a.cells = b.cells))) ∧ Drawn0 W w' := fun W hW =>
    P.slices_Equal_int_int.calls 1002 Ac cc a.cells Bc dc b.cells (decide (a.cells = b.cells)) W (Kd.C_below ha.cells hW) ha.lc (Kd.C_below hb.cells hW) hb.lc (eqI _ _ hfc)
  have HX : Hid (sameM a b = (decide (a.k = b.k) && numsM a b && decide (a.path = b.path) && decide (a.cells = b.cells) && decide (a.text = b.text) && decide (a.tag = b.tag))) := Lib.hid rfl
  have HN : Hid (numsM a b = (a.n0 == b.n0 && (a.n1 == b.n1 && (a.n2 == b.n2 && (a.n3 == b.n3 && (a.n4 == b.n4 && (a.n5 == b.n5 && true))))))) := Lib.hid (by unfold numsM; simp [Bool.and_assoc, Bool.beq_eq_decide_eq])
  have HP := Lib.hid (And.intro hp hc)
  generalize sameM a b = R at *
  clear hp hc ha hb hfp hfc
  unfold mV Ms.cs
  obtain ⟨k, n0, n1, n2, n3, n4, n5, path, cells, text, tag⟩ := a
  obtain ⟨k', m0, m1, m2, m3, m4, m5, path', cells', text', tag'⟩ := b
  simp only at *
  generalize path.length = lp at *
  generalize cells.length = lc at *
  generalize path'.length = lp' at *
  generalize cells'.length = lc' at *
  by_cases c1 : k = k'
  · subst c1
    have hq : ∀ d W, (Op.equalIn (d + 2) 66 (.agg #[.int .i64 n0, .int .i64 n1, .int .i64 n2, .int .i64 n3, .int .i64 n4, .int .i64 n5]) (.agg #[.int .i64 m0, .int .i64 m1, .int .i64 m2, .int .i64 m3, .int .i64 m4, .int .i64 m5])).run Tryz.prog W = .ok (numsM ⟨k, n0, n1, n2, n3, n4, n5, path, cells, text, tag⟩ ⟨k, m0, m1, m2, m3, m4, m5, path', cells', text', tag'⟩) W := fun d W => by
      rw [HN.out]; exact eqA66 d W _ _ _ _ _ _ _ _ _ _ _ _
    generalize numsM ⟨k, n0, n1, n2, n3, n4, n5, path, cells, text, tag⟩ ⟨k, m0, m1, m2, m3, m4, m5, path', cells', text', tag'⟩ = N at *
    clear HN
    cases N
    · have HV : Hid (R = false) := Lib.hid (by rw [HX.out]; simp)
      go_enter Tryz.func50, Tryz.ntmps50
      go_wp2_with (fail)
      rw [HV.out]
      exact bodyPost_ret (v := .bool false) (by simp [results, Tryz.results50, go_sem]) rfl ⟨rfl, HB _ _⟩
    · have HX : Hid (R = (decide (path = path') && decide (cells = cells') && decide (text = text') && decide (tag = tag'))) := Lib.hid (by rw [HX.out]; simp)
      generalize decide (path = path') = p1 at *
      generalize decide (cells = cells') = p2 at *
      go_enter Tryz.func50, Tryz.ntmps50
      go_wp2_with (fail)
      refine (HP.out.1 _ (HB _ _)).mono ?_
      rintro e w1 ⟨rfl, hd⟩
      have hd := hd.below
      have HD1 := Lib.hid ((HB _ _).trans (hd.mono (HB _ _).size))
      have HAw1 := (hd.block w.heap.size (by simp; omega)).trans (al2_a w _ _)
      have HBw1 := (hd.block (w.heap.size + 1) (by simp)).trans (al2_b w _ _)
      have H1 := Lib.hid (And.intro HAw1 HBw1)
      have q8 : w1.cell? ⟨w.heap.size, 8, none⟩ = some (.slice Ac lc cc) := cell_at HAw1 rfl
      have r8 : w1.cell? ⟨w.heap.size + 1, 8, none⟩ = some (.slice Bc lc' dc) := cell_at HBw1 rfl
      have q9 : w1.cell? ⟨w.heap.size, 9, none⟩ = some (.string text) := cell_at HAw1 rfl
      have r9 : w1.cell? ⟨w.heap.size + 1, 9, none⟩ = some (.string text') := cell_at HBw1 rfl
      have q10 : w1.cell? ⟨w.heap.size, 10, none⟩ = some (.string tag) := cell_at HAw1 rfl
      have r10 : w1.cell? ⟨w.heap.size + 1, 10, none⟩ = some (.string tag') := cell_at HBw1 rfl
      clear hd HAw1 HBw1
      cases p1
      · have HV : Hid (R = false) := Lib.hid (by rw [HX.out]; simp)
        go_wp2_with (fail)
        rw [HV.out]
        exact bodyPost_ret (v := .bool false) (by simp [results, Tryz.results50, go_sem]) rfl ⟨rfl, HD1.out⟩
      · go_wp2_with (fail)
        refine (HP.out.2 _ HD1.out).mono ?_
        rintro e w2 ⟨rfl, hd⟩
        have hd := hd.below
        have HD2 := Lib.hid (HD1.out.trans (hd.mono HD1.out.size))
        have HAw2 := (hd.block w.heap.size (Array.getElem?_eq_some_iff.1 H1.out.1).1).trans H1.out.1
        have HBw2 := (hd.block (w.heap.size + 1) (Array.getElem?_eq_some_iff.1 H1.out.2).1).trans H1.out.2
        clear q8 q9 q10 r8 r9 r10
        have q8 : w2.cell? ⟨w.heap.size, 8, none⟩ = some (.slice Ac lc cc) := cell_at HAw2 rfl
        have r8 : w2.cell? ⟨w.heap.size + 1, 8, none⟩ = some (.slice Bc lc' dc) := cell_at HBw2 rfl
        have q9 : w2.cell? ⟨w.heap.size, 9, none⟩ = some (.string text) := cell_at HAw2 rfl
        have r9 : w2.cell? ⟨w.heap.size + 1, 9, none⟩ = some (.string text') := cell_at HBw2 rfl
        have q10 : w2.cell? ⟨w.heap.size, 10, none⟩ = some (.string tag) := cell_at HAw2 rfl
        have r10 : w2.cell? ⟨w.heap.size + 1, 10, none⟩ = some (.string tag') := cell_at HBw2 rfl
        clear hd HAw2 HBw2
        cases p2
        · have HV : Hid (R = false) := Lib.hid (by rw [HX.out]; simp)
          go_wp2_with (fail)
          rw [HV.out]
          exact bodyPost_ret (v := .bool false) (by simp [results, Tryz.results50, go_sem]) rfl ⟨rfl, HD2.out⟩
        · by_cases c2 : text = text'
          · subst c2
            by_cases c3 : tag = tag'
            · subst c3
              have HV : Hid (R = true) := Lib.hid (by rw [HX.out]; simp)
              go_wp2_with (fail)
              rw [HV.out]
              exact bodyPost_ret (v := .bool true) (by simp [results, Tryz.results50, go_sem]) rfl ⟨rfl, HD2.out⟩
            · have HV : Hid (R = false) := Lib.hid (by rw [HX.out]; simp [c3])
              have c4 : (tag.toList == tag'.toList) = false := (Lib.bytes_beq_false_iff _ _).2 c3
              clear c3
              go_wp2_with (fail)
              rw [HV.out]
              exact bodyPost_ret (v := .bool false) (by simp [results, Tryz.results50, go_sem]) rfl ⟨rfl, HD2.out⟩
          · have HV : Hid (R = false) := Lib.hid (by rw [HX.out]; simp [c2])
            have c4 : (text.toList == text'.toList) = false := (Lib.bytes_beq_false_iff _ _).2 c2
            clear c2
            go_wp2_with (fail)
            rw [HV.out]
            exact bodyPost_ret (v := .bool false) (by simp [results, Tryz.results50, go_sem]) rfl ⟨rfl, HD2.out⟩
  · have HV : Hid (R = false) := Lib.hid (by rw [HX.out]; simp [c1])
    go_enter Tryz.func50, Tryz.ntmps50
    go_wp2_with (fail)
    rw [HV.out]
    exact bodyPost_ret (v := .bool false) (by simp [results, Tryz.results50, go_sem]) rfl ⟨rfl, HB _ _⟩
end Go.Proofs.YtgdlpgakhhebeaaGreatDoor
end
section
set_option linter.unusedVariables false
set_option linter.unusedSimpArgs false
namespace Go.Proofs.YtgdlpgakhhebeaaGreatDoor
open Go.RowKit Go.Proofs.YtgdlpgakhhebeaaGreatDoorW.PrintWords Go.Proofs.YtgdlpgakhhebeaaGreatDoorW.PrintMore

/-- Eleven cells written. -/
abbrev st11 (W : World) (b : Nat) (v0 v1 v2 v3 v4 v5 v6 v7 v8 v9 v10 : Value) : World :=
  ((((((((((W.setCell ⟨b, 0, none⟩ v0).setCell ⟨b, 1, none⟩ v1).setCell ⟨b, 2, none⟩ v2).setCell ⟨b, 3, none⟩ v3).setCell ⟨b, 4, none⟩ v4).setCell ⟨b, 5, none⟩ v5).setCell ⟨b, 6, none⟩ v6).setCell ⟨b, 7, none⟩ v7).setCell ⟨b, 8, none⟩ v8).setCell ⟨b, 9, none⟩ v9).setCell ⟨b, 10, none⟩ v10
theorem hs_at {W : World} {b j t : Nat} {cs cs' : Array Value} {v : Value} (h : W.heap[b]? = some (.cells cs t)) (e : cs.setIfInBounds j v = cs') : (W.setCell ⟨b, j, none⟩ v).heap[b]? = some (.cells cs' t) := by
  rw [heap_setCell_at h, e]
theorem st11_heap {W : World} {b t : Nat} {a0 a1 a2 a3 a4 a5 a6 a7 a8 a9 a10 : Value} (h : W.heap[b]? = some (.cells #[a0, a1, a2, a3, a4, a5, a6, a7, a8, a9, a10] t)) (v0 v1 v2 v3 v4 v5 v6 v7 v8 v9 v10 : Value) :
    (st11 W b v0 v1 v2 v3 v4 v5 v6 v7 v8 v9 v10).heap[b]? = some (.cells #[v0, v1, v2, v3, v4, v5, v6, v7, v8, v9, v10] t) := by
  have h0 : (W.setCell ⟨b, 0, none⟩ v0).heap[b]? = some (.cells #[v0, a1, a2, a3, a4, a5, a6, a7, a8, a9, a10] t) := hs_at h rfl
  have h1 : ((W.setCell ⟨b, 0, none⟩ v0).setCell ⟨b, 1, none⟩ v1).heap[b]? = some (.cells #[v0, v1, a2, a3, a4, a5, a6, a7, a8, a9, a10] t) := hs_at h0 rfl
  have h2 : (((W.setCell ⟨b, 0, none⟩ v0).setCell ⟨b, 1, none⟩ v1).setCell ⟨b, 2, none⟩ v2).heap[b]? = some (.cells #[v0, v1, v2, a3, a4, a5, a6, a7, a8, a9, a10] t) := hs_at h1 rfl
  have h3 : ((((W.setCell ⟨b, 0, none⟩ v0).setCell ⟨b, 1, none⟩ v1).setCell ⟨b, 2, none⟩ v2).setCell ⟨b, 3, none⟩ v3).heap[b]? = some (.cells #[v0, v1, v2, v3, a4, a5, a6, a7, a8, a9, a10] t) := hs_at h2 rfl
  have h4 : (((((W.setCell ⟨b, 0, none⟩ v0).setCell ⟨b, 1, none⟩ v1).setCell ⟨b, 2, none⟩ v2).setCell ⟨b, 3, none⟩ v3).setCell ⟨b, 4, none⟩ v4).heap[b]? = some (.cells #[v0, v1, v2, v3, v4, a5, a6, a7, a8, a9, a10] t) := hs_at h3 rfl
  have h5 : ((((((W.setCell ⟨b, 0, none⟩ v0).setCell ⟨b, 1, none⟩ v1).setCell ⟨b, 2, none⟩ v2).setCell ⟨b, 3, none⟩ v3).setCell ⟨b, 4, none⟩ v4).setCell ⟨b, 5, none⟩ v5).heap[b]? = some (.cells #[v0, v1, v2, v3, v4, v5, a6, a7, a8, a9, a10] t) := hs_at h4 rfl
  have h6 : (((((((W.setCell ⟨b, 0, none⟩ v0).setCell ⟨b, 1, none⟩ v1).setCell ⟨b, 2, none⟩ v2).setCell ⟨b, 3, none⟩ v3).setCell ⟨b, 4, none⟩ v4).setCell ⟨b, 5, none⟩ v5).setCell ⟨b, 6, none⟩ v6).heap[b]? = some (.cells #[v0, v1, v2, v3, v4, v5, v6, a7, a8, a9, a10] t) := hs_at h5 rfl
  have h7 : ((((((((W.setCell ⟨b, 0, none⟩ v0).setCell ⟨b, 1, none⟩ v1).setCell ⟨b, 2, none⟩ v2).setCell ⟨b, 3, none⟩ v3).setCell ⟨b, 4, none⟩ v4).setCell ⟨b, 5, none⟩ v5).setCell ⟨b, 6, none⟩ v6).setCell ⟨b, 7, none⟩ v7).heap[b]? = some (.cells #[v0, v1, v2, v3, v4, v5, v6, v7, a8, a9, a10] t) := hs_at h6 rfl
  have h8 : (((((((((W.setCell ⟨b, 0, none⟩ v0).setCell ⟨b, 1, none⟩ v1).setCell ⟨b, 2, none⟩ v2).setCell ⟨b, 3, none⟩ v3).setCell ⟨b, 4, none⟩ v4).setCell ⟨b, 5, none⟩ v5).setCell ⟨b, 6, none⟩ v6).setCell ⟨b, 7, none⟩ v7).setCell ⟨b, 8, none⟩ v8).heap[b]? = some (.cells #[v0, v1, v2, v3, v4, v5, v6, v7, v8, a9, a10] t) := hs_at h7 rfl
  have h9 : ((((((((((W.setCell ⟨b, 0, none⟩ v0).setCell ⟨b, 1, none⟩ v1).setCell ⟨b, 2, none⟩ v2).setCell ⟨b, 3, none⟩ v3).setCell ⟨b, 4, none⟩ v4).setCell ⟨b, 5, none⟩ v5).setCell ⟨b, 6, none⟩ v6).setCell ⟨b, 7, none⟩ v7).setCell ⟨b, 8, none⟩ v8).setCell ⟨b, 9, none⟩ v9).heap[b]? = some (.cells #[v0, v1, v2, v3, v4, v5, v6, v7, v8, v9, a10] t) := hs_at h8 rfl
  have h10 : (((((((((((W.setCell ⟨b, 0, none⟩ v0).setCell ⟨b, 1, none⟩ v1).setCell ⟨b, 2, none⟩ v2).setCell ⟨b, 3, none⟩ v3).setCell ⟨b, 4, none⟩ v4).setCell ⟨b, 5, none⟩ v5).setCell ⟨b, 6, none⟩ v6).setCell ⟨b, 7, none⟩ v7).setCell ⟨b, 8, none⟩ v8).setCell ⟨b, 9, none⟩ v9).setCell ⟨b, 10, none⟩ v10).heap[b]? = some (.cells #[v0, v1, v2, v3, v4, v5, v6, v7, v8, v9, v10] t) := hs_at h9 rfl
  exact h10
theorem Stab.set1 {W V : World} {b n : Nat} (h : Stab (fun x => x = b) n W V) (j : Nat) (v : Value) : Stab (fun x => x = b) n W (V.setCell ⟨b, j, none⟩ v) := h.trans (Stab.setT (T := fun x => x = b) (p := ⟨b, j, none⟩) V rfl v) (fun _ h => .inl h)
theorem st11_stab {W : World} {b n : Nat} (v0 v1 v2 v3 v4 v5 v6 v7 v8 v9 v10 : Value) : Stab (fun x => x = b) n W (st11 W b v0 v1 v2 v3 v4 v5 v6 v7 v8 v9 v10) :=
  ((((((((((((Stab.refl _ _ W).set1 0 v0).set1 1 v1).set1 2 v2).set1 3 v3).set1 4 v4).set1 5 v5).set1 6 v6).set1 7 v7).set1 8 v8).set1 9 v9).set1 10 v10)
/-- What a step that writes one block leaves of what lies elsewhere. -/
theorem Stab.R {α : Type} {d : Kd α} {e : Nat} {W W' : World} {b n base : Nat} {v : Value} {xs : List α} (h : d.R e W base (fun _ => True) v xs) (hs : Stab (fun x => x = b) n W W') (hb : b < base) : d.R e W' base (fun _ => True) v xs :=
  Kd.R_mono (R_stab (Kd.R_mono (Kd.R_bound h) (ok' := fun q => base ≤ q) (fun q hq => hq.2.1)) hs (fun k hk e => by omega)) (fun _ _ => trivial)
theorem Stab.one_below {m b n : Nat} {w W W' : World} (hs : Stab (fun x => x = b) n W W') (h : Below m w W) (hm : m ≤ n) (hW : m ≤ W.heap.size) (hb : m ≤ b) : Below m w W' := hs.below h hm hW (fun k hk e => by omega)
theorem Stab.heap1 {b n : Nat} {W W' : World} (hs : Stab (fun x => x = b) n W W') {k t : Nat} {cs : Array Value} (h : W.heap[k]? = some (.cells cs t)) (hk : k ≠ b) : W'.heap[k]? = some (.cells cs t) := hs.block h hk rfl
end Go.Proofs.YtgdlpgakhhebeaaGreatDoor
end
section
set_option linter.unusedVariables false
set_option linter.unusedSimpArgs false
namespace Go.Proofs.YtgdlpgakhhebeaaGreatDoor
open Go.RowKit Go.Proofs.YtgdlpgakhhebeaaGreatDoorW.PrintWords Go.Proofs.YtgdlpgakhhebeaaGreatDoorW.PrintMore
attribute [local go_sem] Oper.semAt_some

theorem chkL_at (m : Ms) (l : List P.S150) (j : Nat) (h : j < l.length) (e : Int) (le : Ms) : chkL m (l.drop j) e le = if wrongM m l[j] = 0 then chkL m (l.drop (j + 1)) 0 (withoutM le l[j]) else (wrongM m l[j], le) := by
  rw [List.drop_eq_getElem_cons h, chkL]
set_option maxRecDepth 100000 in
set_option maxHeartbeats 4000000 in
theorem mcheck_call (m : Ms) (w : World) (Ap : Option Addr) (cp : Nat) (Ac : Option Addr) (cc : Nat) (h : MsR w m Ap cp Ac cc) (hm : Fit m) :
    Calls Tryz.prog 27 #[mV m Ap cp Ac cc] w fun e w' => e = .returned (.int .i64 (chk m)) ∧ Below w.heap.size w w' := by
  have HX : Hid (chk m = _) := Lib.hid (by unfold chk; rfl)
  generalize hR : chk m = R at *
  clear hR
  have HM := Lib.hid (And.intro h hm)
  clear h hm
  unfold mV Ms.cs
  go_enter Tryz.func27, Tryz.ntmps27
  go_wp2_with (fail)
  go_step3
  go_wp2_with (fail)
  go_big_region
  go_wp2_with (fail)
  go_step3
  go_wp2_with (fail)
  refine (P.field_Of.calls m.k (flds m.k) _ (flds_some _)).mono ?_
  rintro e w1 ⟨v, rfl, hR, hb⟩
  have h0 := (hb.block w.heap.size (by simp; omega)).trans (al2_a w _ _)
  have h1 := (hb.block (w.heap.size + 1) (by simp)).trans (al2_b w _ _)
  have hB : Below w.heap.size w w1 := by
    refine Below.trans ?_ (hb.mono ?_)
    · exact (((Below.refl _ w).alloc (Nat.le_refl _) _).alloc (by simp) _).drew
    · simp; omega
  have hz : w.heap.size + 2 ≤ w1.heap.size := by have := hb.size; simp at this; omega
  obtain ⟨A, c, e0, hc, hC⟩ := Kd.R_reads hR
  subst e0
  have hRl : Kd.R P.k150 150 w1 (w.heap.size + 2) (fun _ => True) (.slice A (flds m.k).length c) (flds m.k) := Kd.R_lower hR (by simp)
  have hLok := flds_ok m.k
  have hLl : (flds m.k).length ≤ 6 := by
    rcases flds_kind m.k with (e | e | e | e | e) | e <;> rw [e] <;> decide
  have H1 := Lib.hid (And.intro h0 (And.intro h1 (And.intro hRl (And.intro hB (And.intro hz hLok)))))
  generalize flds m.k = L at *
  obtain ⟨n, hn⟩ : ∃ n, L.length = n := ⟨_, rfl⟩
  have HN := Lib.hid hn
  rw [hn] at H1 hc hLl ⊢
  clear hR hb h0 h1 hB hz hC hRl hLok hn
  obtain ⟨s, hs⟩ : ∃ s, w.heap.size = s := ⟨_, rfl⟩
  have HS := Lib.hid hs
  rw [hs] at H1 ⊢
  clear hs
  go_wp2_with (fail)
  go_loopw [3, 6, 12] (fun ev fb i wr => ∃ (j : Nat) (e : Int) (le : Ms) (Bp : Option Addr) (dp : Nat) (Bc : Option Addr) (dc : Nat), ev = .int .i64 e ∧ i = .int .i64 (j : Int) ∧ j ≤ n ∧
      Hid (chkL m L 9 m = chkL m (L.drop j) e le ∧ wr.heap[s]? = some (.cells (m.cs Ap cp Ac cc) 69) ∧ wr.heap[s + 1]? = some (.cells (le.cs Bp dp Bc dc) 69) ∧ Rw m.path Ap cp le.path Bp dp ∧ Rw m.cells Ac cc le.cells Bc dc ∧ Kd.R P.k150 150 wr (s + 2) (fun _ => True) (.slice A n c) L ∧ Below s w wr ∧ s + 2 ≤ wr.heap.size))
    (fun _ _ i _ => n - (intV i).toNat)
  case atStart => exact ⟨0, 9, m, Ap, cp, Ac, cc, rfl, rfl, Nat.zero_le _, Lib.hid ⟨rfl, H1.out.1, H1.out.2.1, .refl _ _ _, .refl _ _ _, H1.out.2.2.1, H1.out.2.2.2.1, H1.out.2.2.2.2.1⟩⟩
  case round =>
    obtain ⟨j, e, le, Bp, dp, Bc, dc, rfl, rfl, hj, HJ⟩ := hrel
    by_cases hlt : j < n
    · obtain ⟨j1, j2, j3, j4, j5, j6, j7, j8⟩ := HJ.out
      have hjl : j < L.length := by have := HN.out; omega
      obtain ⟨A', c', e0, hc', hC⟩ := Kd.R_reads j6
      rw [HN.out] at e0 hC
      obtain ⟨rfl, -, rfl⟩ : A = A' ∧ n = n ∧ c = c' := by simpa using e0
      obtain ⟨ad, rfl, g0, g1, g2, g3, g4, g5, g6⟩ := P.at_T150 hC (j : Int) (by omega) (by omega)
      rw [Int.toNat_natCast] at g0 g1 g2 g3 g4 g5 g6
      have hrd : P.rd_T150 L (j : Int) = L[j] := by simp [P.rd_T150, List.getD_eq_getElem?_getD, List.getElem?_eq_getElem hjl]
      have hat := chkL_at m L j hjl e le
      have hok := H1.out.2.2.2.2.2 L[j] (List.getElem_mem hjl)
      rw [← hrd] at hat hok
      generalize P.rd_T150 L (j : Int) = f at *
      rw [hat] at j1
      have bF : Below wr.heap.size wr (wr.alloc (.cells (fC f) 150)) := (Below.refl _ wr).alloc (Nat.le_refl _) _
      have k2 := (bF.block s (Array.getElem?_eq_some_iff.1 j2).1).trans j2
      have k3 := (bF.block (s + 1) (Array.getElem?_eq_some_iff.1 j3).1).trans j3
      have kf : (wr.alloc (.cells (fC f) 150)).heap[wr.heap.size]? = some (.cells (fC f) 150) := World.alloc_heap_new wr _
      have hMs : MsR (wr.alloc (.cells (fC f) 150)) m Ap cp Ac cc := (HM.out.1.below (by rw [HS.out]; exact j7)).below bF
      have hw := mwrong_call m f hok (wr.alloc (.cells (fC f) 150)) Ap cp Ac cc hMs HM.out.2
      have q0 : (wr.alloc (.cells (fC f) 150)).cell? ⟨s, 0, none⟩ = some (.int .i64 m.k) := cell_at k2 rfl
      have q1 : (wr.alloc (.cells (fC f) 150)).cell? ⟨s, 1, none⟩ = some (.int .i64 m.n0) := cell_at k2 rfl
      have q2 : (wr.alloc (.cells (fC f) 150)).cell? ⟨s, 2, none⟩ = some (.int .i64 m.n1) := cell_at k2 rfl
      have q3 : (wr.alloc (.cells (fC f) 150)).cell? ⟨s, 3, none⟩ = some (.int .i64 m.n2) := cell_at k2 rfl
      have q4 : (wr.alloc (.cells (fC f) 150)).cell? ⟨s, 4, none⟩ = some (.int .i64 m.n3) := cell_at k2 rfl
      have q5 : (wr.alloc (.cells (fC f) 150)).cell? ⟨s, 5, none⟩ = some (.int .i64 m.n4) := cell_at k2 rfl
      have q6 : (wr.alloc (.cells (fC f) 150)).cell? ⟨s, 6, none⟩ = some (.int .i64 m.n5) := cell_at k2 rfl
      have q7 : (wr.alloc (.cells (fC f) 150)).cell? ⟨s, 7, none⟩ = some (.slice Ap m.path.length cp) := cell_at k2 rfl
      have q8 : (wr.alloc (.cells (fC f) 150)).cell? ⟨s, 8, none⟩ = some (.slice Ac m.cells.length cc) := cell_at k2 rfl
      have q9 : (wr.alloc (.cells (fC f) 150)).cell? ⟨s, 9, none⟩ = some (.string m.text) := cell_at k2 rfl
      have q10 : (wr.alloc (.cells (fC f) 150)).cell? ⟨s, 10, none⟩ = some (.string m.tag) := cell_at k2 rfl
      have HK := Lib.hid (And.intro j1 (And.intro k2 (And.intro k3 (And.intro j4 (And.intro j5 (And.intro (Kd.R_below j6 bF) (And.intro (j7.trans (bF.mono (by omega))) (And.intro hw (And.intro kf hok)))))))))
      unfold fC at *
      clear hat hok hrd hC hc' e0 j1 j2 j3 j4 j5 j6 j7 k2 k3 kf hMs hw bF HJ
      go_wp2_with (fail)
      refine HK.out.2.2.2.2.2.2.2.1.mono ?_
      rintro e w2 ⟨rfl, hb⟩
      obtain ⟨x1, x2, x3, x4, x5, x6, x7, -, xf, xok⟩ := HK.out
      unfold fC at *
      have y2 := (hb.block s (Array.getElem?_eq_some_iff.1 x2).1).trans x2
      have y3 := (hb.block (s + 1) (Array.getElem?_eq_some_iff.1 x3).1).trans x3
      have yf := (hb.block wr.heap.size (Array.getElem?_eq_some_iff.1 xf).1).trans xf
      have y7 := x7.trans (hb.mono (by simp; omega))
      have y6 := Kd.R_below x6 hb
      have y8 : s + 2 ≤ w2.heap.size := by have := hb.size; simp at this; omega
      have r0 : w2.cell? ⟨(s + 1), 0, none⟩ = some (.int .i64 le.k) := cell_at y3 rfl
      have r1 : w2.cell? ⟨(s + 1), 1, none⟩ = some (.int .i64 le.n0) := cell_at y3 rfl
      have r2 : w2.cell? ⟨(s + 1), 2, none⟩ = some (.int .i64 le.n1) := cell_at y3 rfl
      have r3 : w2.cell? ⟨(s + 1), 3, none⟩ = some (.int .i64 le.n2) := cell_at y3 rfl
      have r4 : w2.cell? ⟨(s + 1), 4, none⟩ = some (.int .i64 le.n3) := cell_at y3 rfl
      have r5 : w2.cell? ⟨(s + 1), 5, none⟩ = some (.int .i64 le.n4) := cell_at y3 rfl
      have r6 : w2.cell? ⟨(s + 1), 6, none⟩ = some (.int .i64 le.n5) := cell_at y3 rfl
      have r7 : w2.cell? ⟨(s + 1), 7, none⟩ = some (.slice Bp le.path.length dp) := cell_at y3 rfl
      have r8 : w2.cell? ⟨(s + 1), 8, none⟩ = some (.slice Bc le.cells.length dc) := cell_at y3 rfl
      have r9 : w2.cell? ⟨(s + 1), 9, none⟩ = some (.string le.text) := cell_at y3 rfl
      have r10 : w2.cell? ⟨(s + 1), 10, none⟩ = some (.string le.tag) := cell_at y3 rfl
      have t0 : w2.cell? ⟨wr.heap.size, 0, none⟩ = some (.string f.f0) := cell_at yf rfl
      have t1 : w2.cell? ⟨wr.heap.size, 1, none⟩ = some (.int .i64 f.f1) := cell_at yf rfl
      have t2 : w2.cell? ⟨wr.heap.size, 2, none⟩ = some (.int .i64 f.f2) := cell_at yf rfl
      have t3 : w2.cell? ⟨wr.heap.size, 3, none⟩ = some (.int .i64 f.f3) := cell_at yf rfl
      have t4 : w2.cell? ⟨wr.heap.size, 4, none⟩ = some (.int .i64 f.f4) := cell_at yf rfl
      have t5 : w2.cell? ⟨wr.heap.size, 5, none⟩ = some (.int .i64 f.f5) := cell_at yf rfl
      have t6 : w2.cell? ⟨wr.heap.size, 6, none⟩ = some (.int .i64 f.f6) := cell_at yf rfl
      have HY := Lib.hid (And.intro y2 (And.intro y3 (And.intro x4 (And.intro x5 (And.intro y6 (And.intro y7 y8))))))
      clear q0 q1 q2 q3 q4 q5 q6 q7 q8 q9 q10 x1 x2 x3 x4 x5 x6 x7 xf y2 y3 y6 y7 yf hb
      by_cases h0 : wrongM m f = 0
      · have h1 := HK.out.1
        rw [if_pos h0] at h1
        have H2 := Lib.hid h1
        rw [h0]
        clear h1 h0 HK
        go_wp2_with (fail)
        refine (without_call le f xok w2 Bp dp Bc dc).mono ?_
        rintro e w3 ⟨Dp, ep, Dc, ec, rfl, hp, hc2, hb⟩
        obtain ⟨y2, y3, x4, x5, y6, y7, y8⟩ := HY.out
        have z2 := (hb.block s (Array.getElem?_eq_some_iff.1 y2).1).trans y2
        have z3 := (hb.block (s + 1) (Array.getElem?_eq_some_iff.1 y3).1).trans y3
        have z6 := Kd.R_below y6 hb
        have z7 := y7.trans (hb.mono (by omega))
        have z8 : s + 2 ≤ w3.heap.size := by have := hb.size; omega
        obtain ⟨ln, hln⟩ : ∃ ln, withoutM le f = ln := ⟨_, rfl⟩
        rw [hln] at hp hc2 H2 ⊢
        have HZ := Lib.hid (And.intro z2 (And.intro z3 (And.intro (x4.trans hp) (And.intro (x5.trans hc2) (And.intro z6 (And.intro z7 z8))))))
        have r0 : w3.cell? ⟨(s + 1), 0, none⟩ = some (.int .i64 le.k) := cell_at z3 rfl
        have r1 : w3.cell? ⟨(s + 1), 1, none⟩ = some (.int .i64 le.n0) := cell_at z3 rfl
        have r2 : w3.cell? ⟨(s + 1), 2, none⟩ = some (.int .i64 le.n1) := cell_at z3 rfl
        have r3 : w3.cell? ⟨(s + 1), 3, none⟩ = some (.int .i64 le.n2) := cell_at z3 rfl
        have r4 : w3.cell? ⟨(s + 1), 4, none⟩ = some (.int .i64 le.n3) := cell_at z3 rfl
        have r5 : w3.cell? ⟨(s + 1), 5, none⟩ = some (.int .i64 le.n4) := cell_at z3 rfl
        have r6 : w3.cell? ⟨(s + 1), 6, none⟩ = some (.int .i64 le.n5) := cell_at z3 rfl
        have r7 : w3.cell? ⟨(s + 1), 7, none⟩ = some (.slice Bp le.path.length dp) := cell_at z3 rfl
        have r8 : w3.cell? ⟨(s + 1), 8, none⟩ = some (.slice Bc le.cells.length dc) := cell_at z3 rfl
        have r9 : w3.cell? ⟨(s + 1), 9, none⟩ = some (.string le.text) := cell_at z3 rfl
        have r10 : w3.cell? ⟨(s + 1), 10, none⟩ = some (.string le.tag) := cell_at z3 rfl
        have fz0 : w3.frozen? ⟨(s + 1), 0, none⟩ = false := frozen_at z3
        have fz1 : w3.frozen? ⟨(s + 1), 1, none⟩ = false := frozen_at z3
        have fz2 : w3.frozen? ⟨(s + 1), 2, none⟩ = false := frozen_at z3
        have fz3 : w3.frozen? ⟨(s + 1), 3, none⟩ = false := frozen_at z3
        have fz4 : w3.frozen? ⟨(s + 1), 4, none⟩ = false := frozen_at z3
        have fz5 : w3.frozen? ⟨(s + 1), 5, none⟩ = false := frozen_at z3
        have fz6 : w3.frozen? ⟨(s + 1), 6, none⟩ = false := frozen_at z3
        have fz7 : w3.frozen? ⟨(s + 1), 7, none⟩ = false := frozen_at z3
        have fz8 : w3.frozen? ⟨(s + 1), 8, none⟩ = false := frozen_at z3
        have fz9 : w3.frozen? ⟨(s + 1), 9, none⟩ = false := frozen_at z3
        have fz10 : w3.frozen? ⟨(s + 1), 10, none⟩ = false := frozen_at z3
        unfold mV Ms.cs
        clear z2 z3 z6 z7 z8 y2 y3 x4 x5 y6 y7 hp hc2 hb hln HY
        go_wp2_with (fail)
        obtain ⟨z2, z3, p1, p2, z6, z7, z8⟩ := HZ.out
        have hst : Stab (fun x => x = s + 1) w3.heap.size w3 _ := st11_stab (W := w3) (b := s + 1) (n := w3.heap.size) (.int .i64 ln.k) (.int .i64 ln.n0) (.int .i64 ln.n1) (.int .i64 ln.n2) (.int .i64 ln.n3) (.int .i64 ln.n4) (.int .i64 ln.n5) (.slice Dp ln.path.length ep) (.slice Dc ln.cells.length ec) (.string ln.text) (.string ln.tag)
        have hz := hst.size
        have u1 := hst.heap1 z2 (by omega)
        have u2 := Stab.R z6 hst (by omega)
        have u3 := hst.one_below z7 (by omega) (by omega) (by omega)
        exact ⟨⟨j + 1, 0, ln, Dp, ep, Dc, ec, rfl, by simp, hlt, Lib.hid ⟨H2.out, u1, st11_heap z3 _ _ _ _ _ _ _ _ _ _ _, p1, p2, u2, u3, Nat.le_trans z8 hz⟩⟩, by simp [intV]; omega⟩
      · have h1 := HK.out.1
        rw [if_neg h0] at h1
        have hV : R = wrongM m f := by rw [HX.out, h1, if_neg (fun h => h0 h.1)]
        have HV := Lib.hid hV
        have hne : (wrongM m f != 0) = true := by simpa using h0
        have hne2 : (wrongM m f == 0) = false := by simpa using h0
        clear h1 HK hV h0
        generalize wrongM m f = x at *
        go_wp2_with (fail)
        rw [Exit.noGoto_ret]
        exact bodyPost_ret (v := .int .i64 x) (by simp [results, Tryz.results27, go_sem]) rfl ⟨by rw [HV.out], by rw [HS.out]; exact HY.out.2.2.2.2.2.1⟩
    · obtain rfl : j = n := by omega
      obtain ⟨j1, j2, j3, j4, j5, j6, j7, j8⟩ := HJ.out
      rw [List.drop_eq_nil_of_le (by have := HN.out; omega)] at j1
      have h1 : chkL m L 9 m = (e, le) := j1
      have hv := HX.out
      rw [h1] at hv
      simp only at hv
      have HV := Lib.hid hv
      clear hv
      by_cases h0 : e = 0
      · subst h0
        have hMl : MsR wr le Bp dp Bc dc := Rw.msr (HM.out.1.below (by rw [HS.out]; exact j7)) j4 j5
        have hMz : MsR wr { z69 with k := m.k } none 0 none 0 := ⟨Nat.le_refl _, Nat.le_refl _, C_nil _ _, C_nil _ _⟩
        have hLn : le.path.length ≤ 1000 ∧ le.cells.length ≤ 1000 := by
          have f1 := HM.out.2.path
          have f2 := HM.out.2.cells
          refine ⟨?_, ?_⟩
          · rcases j4 with ⟨e, _, _⟩ | ⟨e, _, _⟩ <;> rw [e]
            · exact f1
            · exact Nat.zero_le _
          · rcases j5 with ⟨e, _, _⟩ | ⟨e, _, _⟩ <;> rw [e]
            · exact f2
            · exact Nat.zero_le _
        have hsm := same_call le { z69 with k := m.k } wr Bp dp Bc dc none 0 none 0 hMl hMz hLn.1 hLn.2
        have HSM := Lib.hid (And.intro hsm j7)
        have q0 : wr.cell? ⟨s, 0, none⟩ = some (.int .i64 m.k) := cell_at j2 rfl
        have r0 : wr.cell? ⟨(s + 1), 0, none⟩ = some (.int .i64 le.k) := cell_at j3 rfl
        have r1 : wr.cell? ⟨(s + 1), 1, none⟩ = some (.int .i64 le.n0) := cell_at j3 rfl
        have r2 : wr.cell? ⟨(s + 1), 2, none⟩ = some (.int .i64 le.n1) := cell_at j3 rfl
        have r3 : wr.cell? ⟨(s + 1), 3, none⟩ = some (.int .i64 le.n2) := cell_at j3 rfl
        have r4 : wr.cell? ⟨(s + 1), 4, none⟩ = some (.int .i64 le.n3) := cell_at j3 rfl
        have r5 : wr.cell? ⟨(s + 1), 5, none⟩ = some (.int .i64 le.n4) := cell_at j3 rfl
        have r6 : wr.cell? ⟨(s + 1), 6, none⟩ = some (.int .i64 le.n5) := cell_at j3 rfl
        have r7 : wr.cell? ⟨(s + 1), 7, none⟩ = some (.slice Bp le.path.length dp) := cell_at j3 rfl
        have r8 : wr.cell? ⟨(s + 1), 8, none⟩ = some (.slice Bc le.cells.length dc) := cell_at j3 rfl
        have r9 : wr.cell? ⟨(s + 1), 9, none⟩ = some (.string le.text) := cell_at j3 rfl
        have r10 : wr.cell? ⟨(s + 1), 10, none⟩ = some (.string le.tag) := cell_at j3 rfl
        clear hsm hMl hMz hLn h1 j1 j2 j3 j4 j5 j6 j7 HJ HX
        go_wp2_with (fail)
        refine HSM.out.1.mono ?_
        rintro e w2 ⟨rfl, hb⟩
        have HB := Lib.hid (HSM.out.2.trans (hb.mono (by omega)))
        clear hb HSM
        generalize sameM le { z69 with k := m.k } = bb at *
        cases bb
        · have HW : Hid (R = 3) := Lib.hid (by rw [HV.out]; simp)
          clear HV
          go_wp2_with (fail)
          rw [Exit.noGoto_ret]
          exact bodyPost_ret (v := .int .i64 3) (by simp [results, Tryz.results27, go_sem]) rfl ⟨by rw [HW.out], by rw [HS.out]; exact HB.out⟩
        · have HW : Hid (R = 0) := Lib.hid (by rw [HV.out]; simp)
          clear HV
          go_wp2_with (fail)
          rw [Exit.noGoto_ret]
          exact bodyPost_ret (v := .int .i64 0) (by simp [results, Tryz.results27, go_sem]) rfl ⟨by rw [HW.out], by rw [HS.out]; exact HB.out⟩
      · have HV : Hid (R = e) := Lib.hid (by rw [HV.out, if_neg (fun h => h0 h.1)])
        have hne2 : (e == 0) = false := by simpa using h0
        have HB := Lib.hid j7
        clear h1 j1 j2 j3 j4 j5 j6 j7 HJ HX h0
        go_wp2_with (fail)
        rw [Exit.noGoto_ret]
        exact bodyPost_ret (v := .int .i64 e) (by simp [results, Tryz.results27, go_sem]) rfl ⟨by rw [HV.out], by rw [HS.out]; exact HB.out⟩
end Go.Proofs.YtgdlpgakhhebeaaGreatDoor
end
