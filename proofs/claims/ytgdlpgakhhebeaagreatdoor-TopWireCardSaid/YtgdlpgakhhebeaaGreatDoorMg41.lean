/- Part 41 of the proof of TopWire: LawTopWire, Fcl, Fcm. -/
import Derived.Below
import Derived.ChangeOld
import Derived.Deep.SlicePairs
import Derived.JoinedOf
import Derived.LaidMore
import Derived.Lay
import Derived.OpenShut
import Derived.ProofKit
import Derived.SevenTiedAt
import Derived.ShutString
import Derived.SizedLaws
import Derived.Test.YtgdlpgakhhebeaaGreatDoorCards
import Derived.Test.YtgdlpgakhhebeaaGreatDoorMg39
import Derived.Test.YtgdlpgakhhebeaaGreatDoorMg40
import Derived.Test.YtgdlpgakhhebeaaGreatDoorTie
import Derived.WalkKit
section
set_option linter.unusedVariables false
namespace Go.Proofs.YtgdlpgakhhebeaaGreatDoor.topWire
open Go.ChangeShapes Go.WideShapes Go.ChangeAt Go.RowKit
open Go.ChangeMaps (open_string shut_string)
open Go.Proofs.YtgdlpgakhhebeaaGreatDoorW.PrintWords Go.Proofs.YtgdlpgakhhebeaaGreatDoorW.PrintMore
theorem own : ownKnob Tryz.prog.godebug = none := by kernel_rfl
theorem laidOut : laidOutB Tryz.prog = true := by kernel_rfl
section
variable {H : Type} {enc : TypeId × Value → H} {w : World} {base : Nat} {spare : Nat → Bool} {held : Bool}
theorem len2 {α : Type} {l : List α} (h : l.length = 2) : ∃ a b, l = [a, b] := by
  match l, h with
  | [a, b], _ => exact ⟨a, b, rfl⟩
theorem add1 (a : Addr) (x : Nat) : (a.add x).add 1 = a.add (x + 1) := by
  by_cases h : x = 0
  · subst h; simp [Addr.add]
  · simp [Addr.add, h, Nat.add_assoc]
theorem len3 {α : Type} {l : List α} (h : l.length = 3) : ∃ a b c, l = [a, b, c] := by
  match l, h with
  | [a, b, c], _ => exact ⟨a, b, c, rfl⟩
theorem len6 {α : Type} {l : List α} (h : l.length = 6) : ∃ a b c d e f, l = [a, b, c, d, e, f] := by
  match l, h with
  | [a, b, c, d, e, f], _ => exact ⟨a, b, c, d, e, f, rfl⟩
theorem len11 {α : Type} {l : List α} (h : l.length = 11) : ∃ a b c d e f g i j k m, l = [a, b, c, d, e, f, g, i, j, k, m] := by
  match l, h with
  | [a, b, c, d, e, f, g, i, j, k, m], _ => exact ⟨a, b, c, d, e, f, g, i, j, k, m, rfl⟩
theorem cells3 : Tryz.prog.cellsOf 3 = 1 := by kernel_rfl
theorem cells22 : Tryz.prog.cellsOf 22 = 1 := by kernel_rfl
theorem cells66 : Tryz.prog.cellsOf 66 = 6 := by kernel_rfl
theorem cells67 : Tryz.prog.cellsOf 67 = 1 := by kernel_rfl
theorem cells26 : Tryz.prog.cellsOf 26 = 1 := by kernel_rfl
theorem cells9 : Tryz.prog.cellsOf 9 = 1 := by kernel_rfl
theorem cells217 : Tryz.prog.cellsOf 217 = 2 := by kernel_rfl
theorem cells52 : Tryz.prog.cellsOf 52 = 3 := by kernel_rfl
theorem cells69 : Tryz.prog.cellsOf 69 = 11 := by kernel_rfl
theorem one {cs : List Value} {k : IntKind} {t : TypeId} {n : Nat} {x : DataW H × List MemPlace} (ht : Tryz.prog.underlying t = some (.int k)) (h : DataW.trod enc Tryz.prog w base spare held n t cs = some x) : ∃ z, cs = [.int k z] := by
  obtain ⟨z, h1, _⟩ := DataW.trod_int ht h
  exact ⟨z, h1⟩
/-- A sender's setting. -/
theorem open52 {cs : List Value} {n : Nat} {x : DataW H × List MemPlace} (h : DataW.trod enc Tryz.prog w base spare held n 52 cs = some x) : ∃ v mtu st, cs = [.int .i64 v, .int .i64 mtu, .int .u32 st] := by
  obtain ⟨xs, m, _, _, hl, hxl, hf⟩ := DataW.trod_struct Tryz.underlying52 h
  rw [cells52] at hl
  obtain ⟨a, b, c, rfl⟩ := len3 hl
  obtain ⟨x0, x1, x2, rfl⟩ := len3 hxl
  have f0 : DataW.trod enc Tryz.prog w base spare held m 3 (([a, b, c].drop 0).take (Tryz.prog.cellsOf 3)) = some x0 := hf 0 _ rfl
  have f1 : DataW.trod enc Tryz.prog w base spare held m 3 (([a, b, c].drop 1).take (Tryz.prog.cellsOf 3)) = some x1 := hf 1 _ rfl
  have f2 : DataW.trod enc Tryz.prog w base spare held m 22 (([a, b, c].drop 2).take (Tryz.prog.cellsOf 22)) = some x2 := hf 2 _ rfl
  rw [cells3] at f0 f1
  rw [cells22] at f2
  obtain ⟨z0, e0⟩ := one Tryz.underlying3 f0
  obtain ⟨z1, e1⟩ := one Tryz.underlying3 f1
  obtain ⟨z2, e2⟩ := one Tryz.underlying22 f2
  cases e0
  cases e1
  cases e2
  exact ⟨z0, z1, z2, rfl⟩
theorem open66 {cs : List Value} {n : Nat} {x : DataW H × List MemPlace} (h : DataW.trod enc Tryz.prog w base spare held n 66 cs = some x) : ∃ a b c d e f, cs = [.int .i64 a, .int .i64 b, .int .i64 c, .int .i64 d, .int .i64 e, .int .i64 f] := by
  obtain ⟨xs, m, _, _, hl, hxl, hf⟩ := DataW.trod_array Tryz.underlying66 h
  rw [cells66] at hl
  obtain ⟨a, b, c, d, e, f, rfl⟩ := len6 hl
  have hv : ∀ i, i < 6 → ∃ z, ([a, b, c, d, e, f].drop i).take 1 = [.int .i64 z] := fun i hi => by
    have h1 := hf i hi
    rw [cells3, Nat.mul_one, List.getElem?_eq_getElem (by omega)] at h1
    exact one Tryz.underlying3 h1
  obtain ⟨z0, e0⟩ := hv 0 (by omega)
  obtain ⟨z1, e1⟩ := hv 1 (by omega)
  obtain ⟨z2, e2⟩ := hv 2 (by omega)
  obtain ⟨z3, e3⟩ := hv 3 (by omega)
  obtain ⟨z4, e4⟩ := hv 4 (by omega)
  obtain ⟨z5, e5⟩ := hv 5 (by omega)
  cases e0
  cases e1
  cases e2
  cases e3
  cases e4
  cases e5
  exact ⟨z0, z1, z2, z3, z4, z5, rfl⟩
theorem open26 {cs : List Value} {n : Nat} {x : DataW H × List MemPlace} (h : DataW.trod enc Tryz.prog w base spare held n 26 cs = some x) : ∃ (A : Option Addr) (c : Nat) (zs : List Int), cs = [.slice A zs.length c] ∧ zs.length ≤ c ∧ Kd.C (Kd.int .i64) w A zs.length zs := by
  rcases DataW.trod_slice Tryz.underlying26 h with ⟨hcs, _⟩ | ⟨a, len, cap, elems, rest, n, _, hcs, _, _, hl, hm, hlen, hel, _, _⟩
  · exact ⟨none, 0, [], hcs, Nat.zero_le _, Kd.C_nil _ _⟩
  · have hz : ∀ i, i < len → ∃ z, w.cell? (a.add i) = some (.int .i64 z) := fun i hi => by
      have h1 := hel i hi
      rw [cells3, Nat.mul_one, List.getElem?_eq_getElem (by omega)] at h1
      obtain ⟨c1, hc1, h2⟩ := Option.bind_eq_some_iff.1 h1
      obtain ⟨z, rfl⟩ := one Tryz.underlying3 h2
      obtain ⟨_, _, hcell⟩ := World.cells?_some hc1
      have := hcell 0 (by omega)
      exact ⟨z, by simpa [Addr.add] using this⟩
    obtain ⟨f, hf⟩ : ∃ f : Nat → Int, ∀ i, i < len → w.cell? (a.add i) = some (.int .i64 (f i)) :=
      ⟨fun i => if h : i < len then (hz i h).choose else 0, fun i h => by simp only [h, dif_pos]; exact (hz i h).choose_spec⟩
    refine ⟨some a, cap, (List.range len).map f, by simpa using hcs, by simpa using hl, ⟨rfl, by have : maxLen = 9223372036854775807 := rfl; simp; omega, fun hp => ⟨a, rfl, fun j p hj => ?_⟩⟩⟩
    have hjl : j < len := by have := (List.getElem?_eq_some_iff.1 hj).1; simpa using this
    rw [List.getElem?_map, List.getElem?_range hjl] at hj
    obtain rfl : f j = p := by simpa using hj
    refine ⟨[.int .i64 (f j)], rfl, rfl, fun i u hu => ?_⟩
    cases i with
    | zero =>
      simp at hu
      subst hu
      simpa [Kd.int, Kd.scalar] using hf j hjl
    | succ i => simp at hu
theorem open67 {cs : List Value} {n : Nat} {x : DataW H × List MemPlace} (h : DataW.trod enc Tryz.prog w base spare held n 67 cs = some x) : ∃ (A : Option Addr) (c : Nat) (zs : List P.S217), cs = [.slice A zs.length c] ∧ zs.length ≤ c ∧ Kd.C P.k217 w A zs.length zs := by
  rcases DataW.trod_slice Tryz.underlying67 h with ⟨hcs, _⟩ | ⟨a, len, cap, elems, rest, n, _, hcs, _, _, hl, hm, hlen, hel, _, _⟩
  · exact ⟨none, 0, [], hcs, Nat.zero_le _, Kd.C_nil _ _⟩
  · have hz : ∀ i, i < len → ∃ z : P.S217, w.cell? (a.add (i * 2)) = some (.int .i64 z.f0) ∧ w.cell? (a.add (i * 2 + 1)) = some (.int .i64 z.f1) := fun i hi => by
      have h1 := hel i hi
      rw [cells217, List.getElem?_eq_getElem (by omega)] at h1
      obtain ⟨c1, hc1, h2⟩ := Option.bind_eq_some_iff.1 h1
      obtain ⟨_, hl2, hcell⟩ := World.cells?_some hc1
      obtain ⟨xs, m, _, _, hl3, hxl, hf⟩ := DataW.trod_struct Tryz.underlying217 h2
      obtain ⟨u, v, rfl⟩ := len2 hl2
      obtain ⟨x0, x1, rfl⟩ := len2 hxl
      have f0 : DataW.trod enc Tryz.prog w base spare held m 3 (([u, v].drop 0).take (Tryz.prog.cellsOf 3)) = some x0 := hf 0 _ rfl
      have f1 : DataW.trod enc Tryz.prog w base spare held m 3 (([u, v].drop 1).take (Tryz.prog.cellsOf 3)) = some x1 := hf 1 _ rfl
      rw [cells3] at f0 f1
      obtain ⟨z0, e0⟩ := one Tryz.underlying3 f0
      obtain ⟨z1, e1⟩ := one Tryz.underlying3 f1
      cases e0
      cases e1
      have q0 := hcell 0 (by omega)
      have q1 := hcell 1 (by omega)
      exact ⟨⟨z0, z1⟩, by simpa [Addr.add] using q0, by rw [← add1]; simpa using q1⟩
    obtain ⟨f, hf⟩ : ∃ f : Nat → P.S217, ∀ i, i < len → w.cell? (a.add (i * 2)) = some (.int .i64 (f i).f0) ∧ w.cell? (a.add (i * 2 + 1)) = some (.int .i64 (f i).f1) :=
      ⟨fun i => if h : i < len then (hz i h).choose else ⟨0, 0⟩, fun i h => by simp only [h, dif_pos]; exact (hz i h).choose_spec⟩
    refine ⟨some a, cap, (List.range len).map f, by simpa using hcs, by simpa using hl, ⟨rfl, by have : maxLen = 9223372036854775807 := rfl; simp; omega, fun hp => ⟨a, rfl, fun j p hj => ?_⟩⟩⟩
    have hjl : j < len := by have := (List.getElem?_eq_some_iff.1 hj).1; simpa using this
    rw [List.getElem?_map, List.getElem?_range hjl] at hj
    obtain rfl : f j = p := by simpa using hj
    refine ⟨[.int .i64 (f j).f0, .int .i64 (f j).f1], rfl, ⟨[_], [_], rfl, rfl, rfl⟩, fun i u hu => ?_⟩
    match i, hu with
    | 0, hu =>
      simp at hu
      subst hu
      exact (hf j hjl).1
    | 1, hu =>
      simp at hu
      subst hu
      exact (hf j hjl).2
    | i + 2, hu => simp at hu
/-- A message. -/
theorem open69 {cs : List Value} {n : Nat} {x : DataW H × List MemPlace} (h : DataW.trod enc Tryz.prog w base spare held n 69 cs = some x) : ∃ (m : Ms) (Ap : Option Addr) (cp : Nat) (Ac : Option Addr) (cc : Nat), cs = (m.cs Ap cp Ac cc).toList ∧ MsR w m Ap cp Ac cc := by
  obtain ⟨xs, m, _, _, hl, hxl, hf⟩ := DataW.trod_struct Tryz.underlying69 h
  rw [cells69] at hl
  obtain ⟨c0, c1, c2, c3, c4, c5, c6, c7, c8, c9, c10, rfl⟩ := len11 hl
  obtain ⟨x0, x1, x2, x3, x4, x5, rfl⟩ := len6 hxl
  have f0 : DataW.trod enc Tryz.prog w base spare held m 3 (([c0, c1, c2, c3, c4, c5, c6, c7, c8, c9, c10].drop 0).take (Tryz.prog.cellsOf 3)) = some x0 := hf 0 _ rfl
  have f1 : DataW.trod enc Tryz.prog w base spare held m 66 (([c0, c1, c2, c3, c4, c5, c6, c7, c8, c9, c10].drop 1).take (Tryz.prog.cellsOf 66)) = some x1 := hf 1 _ rfl
  have f2 : DataW.trod enc Tryz.prog w base spare held m 67 (([c0, c1, c2, c3, c4, c5, c6, c7, c8, c9, c10].drop 7).take (Tryz.prog.cellsOf 67)) = some x2 := hf 2 _ rfl
  have f3 : DataW.trod enc Tryz.prog w base spare held m 26 (([c0, c1, c2, c3, c4, c5, c6, c7, c8, c9, c10].drop 8).take (Tryz.prog.cellsOf 26)) = some x3 := hf 3 _ rfl
  have f4 : DataW.trod enc Tryz.prog w base spare held m 9 (([c0, c1, c2, c3, c4, c5, c6, c7, c8, c9, c10].drop 9).take (Tryz.prog.cellsOf 9)) = some x4 := hf 4 _ rfl
  have f5 : DataW.trod enc Tryz.prog w base spare held m 9 (([c0, c1, c2, c3, c4, c5, c6, c7, c8, c9, c10].drop 10).take (Tryz.prog.cellsOf 9)) = some x5 := hf 5 _ rfl
  rw [cells3] at f0
  rw [cells66] at f1
  rw [cells67] at f2
  rw [cells26] at f3
  rw [cells9] at f4 f5
  obtain ⟨z0, e0⟩ := one Tryz.underlying3 f0
  obtain ⟨y0, y1, y2, y3, y4, y5, e1⟩ := open66 f1
  obtain ⟨Ap, cp, pth, e2, l2, C2⟩ := open67 f2
  obtain ⟨Ac, cc, cls, e3, l3, C3⟩ := open26 f3
  obtain ⟨t1, e4, _⟩ := DataW.trod_string Tryz.underlying9 f4
  obtain ⟨t2, e5, _⟩ := DataW.trod_string Tryz.underlying9 f5
  cases e0
  cases e1
  cases e2
  cases e3
  cases e4
  cases e5
  exact ⟨⟨z0, y0, y1, y2, y3, y4, y5, pth, cls, t1, t2⟩, Ap, cp, Ac, cc, rfl, ⟨l2, l3, C2, C3⟩⟩
end
/-- TopWire, whatever it is called with. -/
theorem walk (v mtu st : Int) (m : Ms) (w : World) (Ap : Option Addr) (cp : Nat) (Ac : Option Addr) (cc : Nat) (h : MsR w m Ap cp Ac cc) :
    Calls Tryz.prog 6 #[.agg #[.int .i64 v, .int .i64 mtu, .int .u32 st], .agg (m.cs Ap cp Ac cc)] w fun e w' => e = .returned (.bool true) ∧ Below w.heap.size w w' := by
  by_cases hs : chkS v mtu = 0
  · exact topWire_good v mtu st hs m w Ap cp Ac cc h
  · exact topWire_bad v mtu st hs m w Ap cp Ac cc h
noncomputable def zeroS : Value := .agg #[.int .i64 0, .int .i64 0, .int .u32 0]
noncomputable def zeroM : Value := .agg #[.int .i64 0, .int .i64 0, .int .i64 0, .int .i64 0, .int .i64 0, .int .i64 0, .int .i64 0, .slice none 0 0, .slice none 0 0, .string ⟨#[]⟩, .string ⟨#[]⟩]
set_option maxRecDepth 100000 in
theorem lifted (os : Os) (started : os.Started) (H : Type) (enc : TypeId × Value → H) :
    ReturnsInHanded {} Tryz.checked os 6 .any (fun w args => (Rows.topWireSpec.pre enc Tryz.prog Tryz.f6 Rows.topWireRow.domain false w args ∧ laidMetH Tryz.prog Rows.topWireRow.laid w) ∧ sizedMet enc Tryz.prog Tryz.f6 (OpenSpec.ofChange Rows.topWireSpec) false w args)
      (Rows.topWireSpec.post enc Tryz.prog Tryz.f6 false true false false) := by
  refine returnsInHanded_of_change_and (C := Tryz.checked) (X := fun w _ => laidMetH Tryz.prog Rows.topWireRow.laid w) (fun _ _ _ hh h => h.of_heap hh) own started (by kernel_rfl) Tryz.func6
    (ChangeSpec.witness_shaped (enc := enc) (C := Tryz.checked) (os := os) (X := fun w _ => laidMetH Tryz.prog Rows.topWireRow.laid w) false (World.laidAll Tryz.prog os Rows.topWireRow.laid) #[zeroS, zeroM] 8 (World.laidAll_os _ _ _)
      (World.shaped_of_ZipB (by kernel_rfl) (by kernel_rfl)) (by kernel_rfl) (by kernel_rfl) (by kernel_rfl)
      (by rw [MakeChecks.laidMetH_plain _ _ _ (by kernel_rfl)]; exact laidMet_laidAll _ (by kernel_rfl) (by kernel_rfl))) ?_
  intro W base args ds gs before hval0 hW hc _ hL _
  have hval : ∀ (j : Nat) t v, Tryz.f6.params[j]? = some t → args[j]? = some v → Value.okWide Tryz.prog W .any base t v := hval0
  have hW' := hW
  obtain ⟨p, q, hA0, hV, rfl, hfz, hnd⟩ := hW
  have hA : DataW.TrodAll enc Tryz.prog W 0 (fun _ => true) true Tryz.f6.params.toList args.toList ds p := hA0
  rw [Tryz.params6] at hA hval
  obtain ⟨v0, vs0, d0, ds0, p0, q0, hargs, rfl, rfl, h0, r0⟩ := trodAll_cons hA
  obtain ⟨v1, vs1, d1, ds1, p1, q1, rfl, rfl, rfl, h1, r1⟩ := trodAll_cons r0
  obtain ⟨rfl, rfl, rfl⟩ := trodAll_nil r1
  obtain rfl : args = #[v0, v1] := by cases args; simp_all
  obtain ⟨rfl, rfl⟩ := trodVars_none hV
  obtain ⟨cs0, rfl, hl0⟩ := okWide_struct Tryz.underlying52 (hval 0 52 v0 rfl rfl)
  obtain ⟨cs1, rfl, hl1⟩ := okWide_struct Tryz.underlying69 (hval 1 69 v1 rfl rfl)
  have k0 := h0
  have k1 := h1
  have lt0 : ∀ x ∈ p0, x.block < W.heap.size := by obtain ⟨m, hm⟩ := k0; exact DataW.trod_lt m _ _ _ hm
  have lt1 : ∀ x ∈ p1, x.block < W.heap.size := by obtain ⟨m, hm⟩ := k1; exact DataW.trod_lt m _ _ _ hm
  obtain ⟨n0, g0⟩ := h0
  obtain ⟨n1, g1⟩ := h1
  obtain ⟨v, mtu, st, e0⟩ := open52 g0
  obtain ⟨m, Ap, cp, Ac, cc, e1, hM⟩ := open69 g1
  obtain rfl : cs0 = #[.int .i64 v, .int .i64 mtu, .int .u32 st] := by cases cs0; simpa [Value.cells] using e0
  obtain rfl : cs1 = m.cs Ap cp Ac cc := by cases cs1; simpa [Value.cells, Ms.cs] using e1
  clear hA0 hval0 g0 g1 e0 e1
  refine (walk v mtu st m W Ap cp Ac cc hM).mono fun e W' ⟨he, bel⟩ => ?_
  subst he
  exact ⟨_, rfl, _, _, _, [], _, [], hW', trodAll_mk1 (shut_bool Tryz.underlying4 _), (trodAll_cons_mk (Below.trod laidOut (by kernel_rfl) (of_decide_eq_true (by kernel_rfl)) k0 bel lt0) (trodAll_cons_mk (Below.trod laidOut (by kernel_rfl) (of_decide_eq_true (by kernel_rfl)) k1 bel lt1) trodAll_mk0)), rfl, bel.frame _, fun h => by cases h⟩
end Go.Proofs.YtgdlpgakhhebeaaGreatDoor.topWire
end
section
namespace Go.Proofs.YtgdlpgakhhebeaaGreatDoor.topWire
theorem and2 {a b : Bool} (h : a = true) (k : b = true) : (a && b) = true := by rw [h, k]; rfl
theorem j0 : (Rows.topWireRow.wf (OpenSpec.ofChange Rows.topWireSpec)) = true := by kernel_rfl
theorem j1 : (laidOutB Tryz.prog) = true := by kernel_rfl
theorem j2 : (mapsRowed Tryz.prog) = true := by kernel_rfl
theorem j3 : (Tryz.f6.params.all (Tryz.prog.readableRec ·)) = true := by kernel_rfl
theorem j4 : (namedTie Tryz.prog Rows.topWireRow.named Rows.topWireSpec.vars) = true := by kernel_rfl
theorem j5 : (Rows.topWireRow.stops == []) = true := by kernel_rfl
theorem j6 : (Tryz.prog.stops == []) = true := by kernel_rfl
theorem j7 : (Rows.topWireRow.knobs == []) = true := by kernel_rfl
theorem j8 : (Tryz.prog.stopKnobs == []) = true := by kernel_rfl
theorem j9 : (Rows.topWireRow.inPlace == Tryz.prog.inPlace 6) = true := by kernel_rfl
theorem j10 : (Rows.topWireRow.unfollowed == Tryz.prog.unfollowed 6) = true := by kernel_rfl
theorem j11 : (Rows.topWireRow.recurses == Tryz.prog.recurses 6) = true := by kernel_rfl
theorem j12 : (Rows.topWireRow.named == Tryz.prog.varsNamed 6) = true := by kernel_rfl
theorem j13 : (Rows.topWireRow.maps == (Tryz.f6.params.toList ++ Rows.topWireSpec.plain.varTypes Tryz.prog).any (Tryz.prog.mapsRec ·)) = true := by kernel_rfl
theorem j14 : (Rows.topWireRow.ifaces == (Tryz.f6.params.toList ++ Rows.topWireSpec.plain.varTypes Tryz.prog).any (Tryz.prog.ifacesRec ·)) = true := by kernel_rfl
theorem j15 : (Rows.topWireRow.mapsOut == Tryz.prog.mapsAmong Tryz.f6.resultTypes.toList) = true := by kernel_rfl
theorem j16 : (Rows.topWireRow.loops == (Tryz.f6.params.toList ++ Rows.topWireSpec.plain.varTypes Tryz.prog).any (Tryz.prog.loopsFrom ·)) = true := by kernel_rfl
theorem j17 : (Rows.topWireRow.wideKeys == (Tryz.f6.params.toList ++ Rows.topWireSpec.plain.varTypes Tryz.prog ++ Tryz.f6.resultTypes.toList).any (Tryz.prog.wideKeysFrom ·)) = true := by kernel_rfl
theorem j18 : (Rows.topWireSpec.vars.all (Tryz.prog.varReadable ·)) = true := by kernel_rfl
theorem j19 : (Tryz.f6.resultTypes.all (fun t => Tryz.prog.readableRec t && decide (t < Tryz.prog.types.size))) = true := by kernel_rfl
theorem j20 : (Rows.topWireRow.ifacesOut == Tryz.f6.resultTypes.toList.any (Tryz.prog.ifacesRec ·)) = true := by kernel_rfl
theorem j21 : (Rows.topWireRow.loopsOut == Tryz.f6.resultTypes.toList.any (Tryz.prog.loopsFrom ·)) = true := by kernel_rfl
theorem j22 : (Rows.topWireRow.plainKeys == Tryz.prog.plainKeys) = true := by kernel_rfl
theorem j23 : (Rows.topWireRow.shortTexts.isNone) = true := by kernel_rfl
theorem j24 : (Tryz.prog.stopsHeard) = true := by kernel_rfl
theorem j25 : (Tryz.prog.mayEnter) = true := by kernel_rfl
theorem j26 : (Rows.topWireRow.lifted == Tryz.prog.liftsFinal) = true := by kernel_rfl
theorem j27 : (Tryz.prog.make == some Rows.topWireRow.make) = true := by kernel_rfl
theorem j28 : (Rows.topWireRow.kinds == (if Rows.topWireRow.domain.isEmpty then [] else Tryz.f6.params.toList.map fun t => match Tryz.prog.underlying t with | some (.int k) => some k | _ => none)) = true := by kernel_rfl
theorem j29 : (Rows.topWireRow.pinned == Rows.topWireRow.pinnedBy) = true := by kernel_rfl
theorem j30 : (Rows.topWireRow.veiled == (Tryz.f6.params.toList ++ Rows.topWireSpec.plain.varTypes Tryz.prog ++ Tryz.f6.resultTypes.toList).any (Tryz.prog.veiledRec ·)) = true := by kernel_rfl
theorem j31 : (Rows.topWireRow.veiledFits Tryz.prog Tryz.f6.params.toList (Tryz.f6.params.toList ++ Rows.topWireSpec.plain.varTypes Tryz.prog ++ Tryz.f6.resultTypes.toList)) = true := by kernel_rfl
theorem named6 : Tryz.prog.funcNamed "cuneiform/cuneiformtop.TopWire" = some 6 := by kernel_rfl
theorem inst : Tryz.f6.isInstance Tryz.prog Rows.topWireRow.origin Rows.topWireRow.targs := of_decide_eq_true (by kernel_rfl)
theorem wrapper : Tryz.f6.isWrapper Tryz.prog Rows.topWireRow.wrapper Rows.topWireRow.mainSum := by unfold Func.isWrapper; first | (rw [if_pos (by decide +kernel)]; kernel_rfl) | (rw [if_neg (by decide +kernel)]; exact ⟨rfl, rfl⟩)
theorem looks6 : true = Tryz.prog.looks [] := by kernel_rfl
theorem stand6 : ([52, 69].all fun u => !Tryz.prog.wantsStandIn u) = true := by kernel_rfl
end Go.Proofs.YtgdlpgakhhebeaaGreatDoor.topWire
end
section
namespace Go.Proofs.YtgdlpgakhhebeaaGreatDoor.topWire
set_option maxRecDepth 100000 in
theorem closed : joinedFacts Tryz.prog 6 Tryz.f6 Rows.topWireSpec Rows.topWireRow = true := by
  unfold joinedFacts
  exact (and2 (and2 (and2 (and2 (and2 (and2 (and2 (and2 (and2 (and2 (and2 (and2 (and2 (and2 (and2 (and2 (and2 (and2 (and2 (and2 (and2 (and2 (and2 (and2 (and2 (and2 (and2 (and2 (and2 (and2 (and2 j0 j1) j2) j3) j4) j5) j6) j7) j8) j9) j10) j11) j12) j13) j14) j15) j16) j17) j18) j19) j20) j21) j22) j23) j24) j25) j26) j27) j28) j29) j30) j31)
end Go.Proofs.YtgdlpgakhhebeaaGreatDoor.topWire
end
