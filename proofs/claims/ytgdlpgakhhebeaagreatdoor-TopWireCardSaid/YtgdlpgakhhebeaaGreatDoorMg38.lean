/- Part 38 of the proof of TopWire: Sdi, Sds. -/
import Derived.Test.YtgdlpgakhhebeaaGreatDoorMg37
section
set_option linter.unusedVariables false
set_option linter.unusedSimpArgs false
namespace Go.Proofs.YtgdlpgakhhebeaaGreatDoor
open Go.RowKit Go.Proofs.YtgdlpgakhhebeaaGreatDoorW.PrintWords Go.Proofs.YtgdlpgakhhebeaaGreatDoorW.PrintMore

theorem info69 : (Tryz.prog.info? 69).map (fun i => (i.zero, i.size, i.bytes)) = some (some (.agg #[.int .i64 0, .int .i64 0, .int .i64 0, .int .i64 0, .int .i64 0, .int .i64 0, .int .i64 0, .slice none 0 0, .slice none 0 0, .string ⟨#[]⟩, .string ⟨#[]⟩]), 11, 136) := by kernel_rfl
theorem info25 : (Tryz.prog.info? 25).map (fun i => (i.zero, i.size, i.bytes)) = some (some (.slice none 0 0), 1, 24) := by kernel_rfl
theorem under53 : Tryz.prog.underlying 53 = some (.slice 69) := by kernel_rfl
theorem under59 : Tryz.prog.underlying 59 = some (.slice 25) := by kernel_rfl
abbrev kRow : Kd (List Int) := Kd.slice 5 (Kd.int .u8)
def rowsF (T : Nat → Int) (fl : List Frm) : List (List Int) := fl.map fun f => [0] ++ segm T f.h f.p ++ [0]
def frF (v : Int) (r : Nat) (nx : Int) (m : Ms) : List Frm := frs v m.k nx ((((encM m v).length + r - 1) / r : Nat) : Int) 0 (ptf (encM m v).length r (encM m v))
def sndR (T : Nat → Int) (v : Int) (r : Nat) : Int → List Ms → List (List Int)
  | _, [] => []
  | nx, m :: l => if chk (cutM m) = 0 then rowsF T (frF v r nx (cutM m)) ++ sndR T v r ((nx + 1) % 4294967296) l else sndR T v r nx l
def sndM (v : Int) : List Ms → List Ms
  | [] => []
  | m :: l => if chk (cutM m) = 0 then prjM (cutM m) v :: sndM v l else sndM v l
def sndN : Int → List Ms → Int
  | nx, [] => nx
  | nx, m :: l => if chk (cutM m) = 0 then sndN ((nx + 1) % 4294967296) l else sndN nx l
theorem fit_cut (m : Ms) : Fit (cutM m) := by
  refine ⟨?_, ?_, ?_, ?_⟩
  · show (m.path.take 40).length ≤ 1000
    rw [List.length_take]; omega
  · show (m.cells.take 40).length ≤ 1000
    rw [List.length_take]; omega
  · show (m.text.extract 0 (min m.text.size 80)).size ≤ 1000000
    rw [ByteArray.size_extract]; omega
  · show (m.tag.extract 0 (min m.tag.size 80)).size ≤ 1000000
    rw [ByteArray.size_extract]; omega
theorem msr_cut {w : World} {m : Ms} {Ap Ac : Option Addr} {cp cc : Nat} (h : MsR w m Ap cp Ac cc) : MsR w (cutM m) Ap cp Ac cc := by
  have e1 : (cutM m).path = m.path.take 40 := rfl
  have e2 : (cutM m).cells = m.cells.take 40 := rfl
  have l1 : (m.path.take 40).length ≤ m.path.length := by rw [List.length_take]; omega
  have l2 : (m.cells.take 40).length ≤ m.cells.length := by rw [List.length_take]; omega
  have t1 : m.path.take 40 = m.path.take (m.path.take 40).length := by rw [List.length_take, List.take_eq_take_iff]; omega
  have t2 : m.cells.take 40 = m.cells.take (m.cells.take 40).length := by rw [List.length_take, List.take_eq_take_iff]; omega
  refine ⟨by rw [e1]; exact Nat.le_trans l1 h.lp, by rw [e2]; exact Nat.le_trans l2 h.lc, ?_, ?_⟩
  · rw [e1]
    have := C_take h.path l1
    rwa [← t1] at this
  · rw [e2]
    have := C_take h.cells l2
    rwa [← t2] at this
/-- A frame that was cut is right. -/
theorem frF_get {v : Int} {r : Nat} {nx : Int} {m : Ms} (hv : v = 1 ∨ v = 2) (hm : Fit m) (hk : chk m = 0) (hr : 1 ≤ r ∧ r ≤ 242) {j : Nat} {f : Frm} (h : (frF v r nx m)[j]? = some f) : f.h.ok ∧ 0 < f.p.length ∧ f.p.length ≤ 242 := by
  have hlen := encM_len m v hv hm hk
  have hkd := kind_of hk
  have hL := ptf_len r hr.1 (encM m v).length (encM m v) (Nat.le_refl _)
  have hj : j < (ptf (encM m v).length r (encM m v)).length := by
    have := (List.getElem?_eq_some_iff.1 h).1
    rwa [frF, frs_len] at this
  have hg := frs_get v m.k nx ((((encM m v).length + r - 1) / r : Nat) : Int) (ptf (encM m v).length r (encM m v)) 0 j _ (List.getElem?_eq_getElem hj)
  rw [frF, hg] at h
  cases h
  have hp := ptf_mem r hr.1 _ _ _ (List.getElem_mem hj)
  have hN : ((encM m v).length + r - 1) / r ≤ 192 := by
    have h5 : ((encM m v).length + r - 1) / r ≤ (encM m v).length := by
      apply Nat.div_le_of_le_mul
      obtain ⟨a, ha⟩ : ∃ a, (encM m v).length = a + 1 := ⟨(encM m v).length - 1, by omega⟩
      obtain ⟨b, hb⟩ : ∃ b, r = b + 1 := ⟨r - 1, by omega⟩
      rw [ha, hb, Nat.succ_mul, Nat.mul_succ]
      omega
    omega
  rw [hL] at hj
  refine ⟨⟨by show 1 ≤ v ∧ v ≤ 2; omega, hkd, ⟨?_, ?_⟩, ⟨?_, ?_⟩⟩, hp.1, Nat.le_trans hp.2 hr.2⟩
  · show (1 : Int) ≤ ((((encM m v).length + r - 1) / r : Nat) : Int); omega
  · show ((((encM m v).length + r - 1) / r : Nat) : Int) ≤ 255; omega
  · show (0 : Int) ≤ ((0 + j : Nat) : Int); omega
  · show ((0 + j : Nat) : Int) < ((((encM m v).length + r - 1) / r : Nat) : Int); omega
theorem frF_len {v : Int} {r : Nat} {nx : Int} {m : Ms} (hv : v = 1 ∨ v = 2) (hm : Fit m) (hk : chk m = 0) (hr : 1 ≤ r ∧ r ≤ 242) : (frF v r nx m).length = ((encM m v).length + r - 1) / r ∧ (frF v r nx m).length ≤ 192 := by
  have hlen := encM_len m v hv hm hk
  have hL := ptf_len r hr.1 (encM m v).length (encM m v) (Nat.le_refl _)
  have e : (frF v r nx m).length = ((encM m v).length + r - 1) / r := by rw [frF, frs_len, hL]
  refine ⟨e, ?_⟩
  rw [e]
  have h5 : ((encM m v).length + r - 1) / r ≤ (encM m v).length := by
    apply Nat.div_le_of_le_mul
    obtain ⟨a, ha⟩ : ∃ a, (encM m v).length = a + 1 := ⟨(encM m v).length - 1, by omega⟩
    obtain ⟨b, hb⟩ : ∃ b, r = b + 1 := ⟨r - 1, by omega⟩
    rw [ha, hb, Nat.succ_mul, Nat.mul_succ]
    omega
  omega
def rd69 (xs : List Ms) (i : Int) : Ms := xs.getD i.toNat z69
/-- A message's cells at an address. -/
structure MsAt (w : World) (a : Addr) (m : Ms) (Ap : Option Addr) (cp : Nat) (Ac : Option Addr) (cc : Nat) : Prop where
  h0 : w.cell? a = some (.int .i64 m.k)
  h1 : w.cell? ⟨a.block, a.off + 1, none⟩ = some (.int .i64 m.n0)
  h2 : w.cell? ⟨a.block, a.off + 2, none⟩ = some (.int .i64 m.n1)
  h3 : w.cell? ⟨a.block, a.off + 3, none⟩ = some (.int .i64 m.n2)
  h4 : w.cell? ⟨a.block, a.off + 4, none⟩ = some (.int .i64 m.n3)
  h5 : w.cell? ⟨a.block, a.off + 5, none⟩ = some (.int .i64 m.n4)
  h6 : w.cell? ⟨a.block, a.off + 6, none⟩ = some (.int .i64 m.n5)
  h7 : w.cell? ⟨a.block, a.off + 7, none⟩ = some (.slice Ap m.path.length cp)
  h8 : w.cell? ⟨a.block, a.off + 8, none⟩ = some (.slice Ac m.cells.length cc)
  h9 : w.cell? ⟨a.block, a.off + 9, none⟩ = some (.string m.text)
  h10 : w.cell? ⟨a.block, a.off + 10, none⟩ = some (.string m.tag)
theorem MsAt.keep {w w' : World} {R : Nat → Prop} {a : Addr} {m : Ms} {Ap Ac : Option Addr} {cp cc : Nat} (h : MsAt w a m Ap cp Ac cc) (hk : Keep R w w') (hR : R a.block) : MsAt w' a m Ap cp Ac cc :=
  ⟨hk.cell h.h0 hR, hk.cell h.h1 hR, hk.cell h.h2 hR, hk.cell h.h3 hR, hk.cell h.h4 hR, hk.cell h.h5 hR, hk.cell h.h6 hR, hk.cell h.h7 hR, hk.cell h.h8 hR, hk.cell h.h9 hR, hk.cell h.h10 hR⟩
theorem at69 {w : World} {A : Option Addr} {n : Nat} {xs : List Ms} (h : Kd.C k69 w A n xs) (i : Int) (h0 : 0 ≤ i) (h1 : i < n) : ∃ ad Ap cp Ac cc, A = some ad ∧ MsAt w (ad.add (i.toNat * 11)) (rd69 xs i) Ap cp Ac cc ∧ MsR w (rd69 xs i) Ap cp Ac cc := by
  obtain ⟨ad, c, e, _, hK, hc0⟩ := Kd.C_get h z69 i h0 h1
  have hc : ∀ j u, c[j]? = some u → w.cell? (ad.add (i.toNat * 11 + j)) = some u := hc0
  obtain ⟨Ap, cp, Ac, cc, rfl, hM⟩ := k69_open hK
  exact ⟨ad, Ap, cp, Ac, cc, e, ⟨hc 0 _ rfl, by rw [← add_field _ _ 1 (by omega)]; exact hc 1 _ rfl, by rw [← add_field _ _ 2 (by omega)]; exact hc 2 _ rfl, by rw [← add_field _ _ 3 (by omega)]; exact hc 3 _ rfl, by rw [← add_field _ _ 4 (by omega)]; exact hc 4 _ rfl, by rw [← add_field _ _ 5 (by omega)]; exact hc 5 _ rfl, by rw [← add_field _ _ 6 (by omega)]; exact hc 6 _ rfl, by rw [← add_field _ _ 7 (by omega)]; exact hc 7 _ rfl, by rw [← add_field _ _ 8 (by omega)]; exact hc 8 _ rfl, by rw [← add_field _ _ 9 (by omega)]; exact hc 9 _ rfl, by rw [← add_field _ _ 10 (by omega)]; exact hc 10 _ rfl⟩, hM⟩
theorem k69_mkM {w : World} {base : Nat} {ok : Nat → Prop} {x : Ms} {Ap Ac : Option Addr} {cp cc : Nat} (h1 : Kd.R P.k217 217 w base ok (.slice Ap x.path.length cp) x.path) (h2 : Kd.R (Kd.int .i64) 3 w base ok (.slice Ac x.cells.length cc) x.cells) : k69.M w base ok x (x.cs Ap cp Ac cc).toList :=
  ⟨[_], _, rfl, rfl, ⟨[_], _, rfl, rfl, ⟨[_], _, rfl, rfl, ⟨[_], _, rfl, rfl, ⟨[_], _, rfl, rfl, ⟨[_], _, rfl, rfl, ⟨[_], _, rfl, rfl, ⟨[_], _, rfl, ⟨_, rfl, h1⟩, ⟨[_], [_, _], rfl, ⟨_, rfl, h2⟩, ⟨[_], [_], rfl, rfl, rfl⟩⟩⟩⟩⟩⟩⟩⟩⟩⟩
/-- A sending that is under way: w1 the world behind the codec's making; b4 the box of what was sent. -/
def SdI (w1 : World) (g cb b4 : Nat) (v mtu st : Int) (X : World) (nx sn : Int) (ys : List (List Int)) (ms : List Ms) : Prop :=
  ∃ vr vl, X.heap[b4]? = some (.cells #[vr, vl] 61) ∧ Kd.R kRow 25 X w1.heap.size (fun _ => True) vr ys ∧ Kd.R k69 69 X w1.heap.size (fun _ => True) vl ms ∧ Snd X g cb v mtu st nx sn ∧ Keep (fun b => b < w1.heap.size ∧ b ≠ g ∧ b ≠ b4) w1 X ∧ w1.heap.size ≤ X.heap.size
theorem SdI.below {w1 : World} {g cb b4 : Nat} {v mtu st : Int} {X X' : World} {nx sn : Int} {ys : List (List Int)} {ms : List Ms} (h : SdI w1 g cb b4 v mtu st X nx sn ys ms) (hb : Below X.heap.size X X') : SdI w1 g cb b4 v mtu st X' nx sn ys ms := by
  obtain ⟨vr, vl, h1, h2, h3, h4, h5, h6⟩ := h
  exact ⟨vr, vl, (hb.block b4 (Array.getElem?_eq_some_iff.1 h1).1).trans h1, Kd.R_below h2 hb, Kd.R_below h3 hb, (hb.block g (Array.getElem?_eq_some_iff.1 h4).1).trans h4, h5.trans (Keep.of_below hb), Nat.le_trans h6 hb.size⟩
/-- Another row grows: what is of other types stays. -/
theorem R_other {α : Type} {d : Kd α} {e e2 : Nat} {X X1 : World} {base : Nat} {u : Value} {xs : List α} {vr : Value} (h : d.R e X base (fun _ => True) u xs) (hg : X.grownBy X1 vr.ownBlock) (ht2 : ∀ q, vr.ownBlock = some q → ∃ cells, X.heap[q]? = some (.cells cells e2 (0, 0))) (ht : ∀ q, q ∈ e :: d.E → q ≠ e2) : d.R e X1 base (fun _ => True) u xs := by
  cases hq : vr.ownBlock with
  | none =>
    rw [hq] at hg
    exact Kd.R_grown h hg (fun k _ => by simp)
  | some q =>
    obtain ⟨cells, hc⟩ := ht2 q hq
    rw [hq] at hg
    exact Kd.R_mono (Kd.R_grown (Kd.R_types h hc ht) hg (fun k hk e => hk.2 (by cases e; rfl))) (fun _ _ => trivial)
end Go.Proofs.YtgdlpgakhhebeaaGreatDoor
end
section
set_option linter.unusedVariables false
set_option linter.unusedSimpArgs false
namespace Go.Proofs.YtgdlpgakhhebeaaGreatDoor
open Go.RowKit Go.Proofs.YtgdlpgakhhebeaaGreatDoorW.PrintWords Go.Proofs.YtgdlpgakhhebeaaGreatDoorW.PrintMore
attribute [local go_sem] Oper.semAt_some

theorem sndR_at (T : Nat → Int) (v : Int) (r : Nat) (nx : Int) (l : List Ms) (i : Nat) (h : i < l.length) : sndR T v r nx (l.drop i) = if chk (cutM l[i]) = 0 then rowsF T (frF v r nx (cutM l[i])) ++ sndR T v r ((nx + 1) % 4294967296) (l.drop (i + 1)) else sndR T v r nx (l.drop (i + 1)) := by
  rw [List.drop_eq_getElem_cons h, sndR]
theorem sndM_at (v : Int) (l : List Ms) (i : Nat) (h : i < l.length) : sndM v (l.drop i) = if chk (cutM l[i]) = 0 then prjM (cutM l[i]) v :: sndM v (l.drop (i + 1)) else sndM v (l.drop (i + 1)) := by
  rw [List.drop_eq_getElem_cons h, sndM]
theorem sndN_at (nx : Int) (l : List Ms) (i : Nat) (h : i < l.length) : sndN nx (l.drop i) = if chk (cutM l[i]) = 0 then sndN ((nx + 1) % 4294967296) (l.drop (i + 1)) else sndN nx (l.drop (i + 1)) := by
  rw [List.drop_eq_getElem_cons h, sndN]
theorem SdI.sent {w1 : World} {g cb b4 : Nat} {v mtu st : Int} {X X' : World} {nx sn nx2 sn2 : Int} {ys : List (List Int)} {ms : List Ms} (h : SdI w1 g cb b4 v mtu st X nx sn ys ms) (hne : b4 ≠ g) (hk : Keep (fun b => b ≠ g) X X') (hS : Snd X' g cb v mtu st nx2 sn2) : SdI w1 g cb b4 v mtu st X' nx2 sn2 ys ms := by
  obtain ⟨vr, vl, h1, h2, h3, h4, h5, h6⟩ := h
  have hm : ∀ b, b ≠ g → b < X.heap.size → X'.heap[b]? = X.heap[b]? := fun b hb hlt => by
    rw [Array.getElem?_eq_getElem hlt]; exact hk.same _ _ (Array.getElem?_eq_getElem hlt) hb
  exact ⟨vr, vl, hk.same _ _ h1 hne, Kd.R_mono (Kd.R_step (Kd.R_types h2 h4 (by decide)) (fun b hb hlt => hm b hb.2 hlt)) (fun _ _ => trivial), Kd.R_mono (Kd.R_step (Kd.R_types h3 h4 (by decide)) (fun b hb hlt => hm b hb.2 hlt)) (fun _ _ => trivial), hS, h5.trans (hk.mono (fun b hb => hb.2.1)), Nat.le_trans h6 hk.size⟩
theorem SdI.code {w1 : World} {g cb b4 : Nat} {v mtu st : Int} {X : World} {nx sn nx1 sn1 : Int} {ys ys1 : List (List Int)} {ms ms1 : List Ms} (h : SdI w1 g cb b4 v mtu st X nx sn ys ms) (h0 : SdI w1 g cb b4 v mtu st w1 nx1 sn1 ys1 ms1) {cp k off : Nat} {T : Nat → Int} (hcp : w1.cell? ⟨cp, 0, none⟩ = some (.pointer (some ⟨k, off, none⟩))) (hT : Tbl w1 k off T) : X.cell? ⟨cp, 0, none⟩ = some (.pointer (some ⟨k, off, none⟩)) ∧ Tbl X k off T := by
  obtain ⟨vr, vl, h1, h2, h3, h4, h5, h6⟩ := h
  obtain ⟨ur, ul, i1, i2, i3, i4, i5, i6⟩ := h0
  obtain ⟨Ar, cr, rfl⟩ := Kd.R_slice i2
  have lt : ∀ {p : Addr} {u : Value}, w1.cell? p = some u → p.block < w1.heap.size := fun {p u} hc => by
    obtain ⟨o, ho, _⟩ := cells_of_cell hc
    exact (Array.getElem?_eq_some_iff.1 ho).1
  have i4 : w1.heap[g]? = some (.cells #[.int .i64 v, .int .i64 mtu, .int .u32 st, .pointer (some ⟨cb, 0, none⟩), .int .u32 nx1, .int .i64 sn1] 146) := i4
  have c1 : cp ≠ g := fun e => by
    subst e
    rw [show w1.cell? ⟨cp, 0, none⟩ = some (.int .i64 v) from cell_at i4 rfl] at hcp
    cases hcp
  have c2 : cp ≠ b4 := fun e => by
    subst e
    rw [show w1.cell? ⟨cp, 0, none⟩ = some (.slice Ar ys1.length cr) from cell_at i1 rfl] at hcp
    cases hcp
  have k1 : k ≠ g := fun e => by
    subst e
    have := hT 6 (by omega)
    simp [World.cell?, i4] at this
  have k2 : k ≠ b4 := fun e => by
    subst e
    have := hT 2 (by omega)
    simp [World.cell?, i1] at this
  exact ⟨h5.cell hcp ⟨lt hcp, c1, c2⟩, fun j hj => h5.cell (hT j hj) ⟨lt (hT j hj), k1, k2⟩⟩
theorem at133 {w : World} {A : Option Addr} {n : Nat} {xs : List Frm} (h : Kd.C k133 w A n xs) (i : Nat) (h1 : i < n) : ∃ ad f Ap c, A = some ad ∧ xs[i]? = some f ∧ w.cell? (ad.add (i * 6)) = some (.int .i64 f.h.v) ∧ w.cell? ⟨(ad.add (i * 6)).block, (ad.add (i * 6)).off + 1, none⟩ = some (.int .i64 f.h.k) ∧ w.cell? ⟨(ad.add (i * 6)).block, (ad.add (i * 6)).off + 2, none⟩ = some (.int .u32 f.h.s) ∧ w.cell? ⟨(ad.add (i * 6)).block, (ad.add (i * 6)).off + 3, none⟩ = some (.int .i64 f.h.i) ∧ w.cell? ⟨(ad.add (i * 6)).block, (ad.add (i * 6)).off + 4, none⟩ = some (.int .i64 f.h.n) ∧ w.cell? ⟨(ad.add (i * 6)).block, (ad.add (i * 6)).off + 5, none⟩ = some (.slice Ap f.p.length c) ∧ f.p.length ≤ c ∧ Kd.C (Kd.int .u8) w Ap f.p.length f.p := by
  obtain ⟨ad, c, e, _, hK, hc0⟩ := Kd.C_get h z133 (i : Int) (by omega) (by omega)
  rw [Int.toNat_natCast] at hK hc0
  have hx : xs[i]? = some (xs.getD i z133) := by
    have : i < xs.length := by have := h.1; omega
    rw [List.getD_eq_getElem?_getD, List.getElem?_eq_getElem this]; rfl
  generalize xs.getD i z133 = f at *
  have hc : ∀ j u, c[j]? = some u → w.cell? (ad.add (i * 6 + j)) = some u := hc0
  obtain ⟨Ap, cc, rfl, l0, g0⟩ := k133_open hK
  exact ⟨ad, f, Ap, cc, e, hx, hc 0 _ rfl, by rw [← add_field _ _ 1 (by omega)]; exact hc 1 _ rfl, by rw [← add_field _ _ 2 (by omega)]; exact hc 2 _ rfl, by rw [← add_field _ _ 3 (by omega)]; exact hc 3 _ rfl, by rw [← add_field _ _ 4 (by omega)]; exact hc 4 _ rfl, by rw [← add_field _ _ 5 (by omega)]; exact hc 5 _ rfl, l0, g0⟩
/-- The loop's cut: i messages are over. -/
def SdL (l : List Ms) (v : Int) (r : Nat) (nx0 : Int) (i : Nat) (nx : Int) (ys : List (List Int)) (ms : List Ms) : Prop :=
  sndR crcT v r nx0 l = ys ++ sndR crcT v r nx (l.drop i) ∧ sndM v l = ms ++ sndM v (l.drop i) ∧ sndN nx0 l = sndN nx (l.drop i) ∧ ys.length ≤ 192 * i ∧ ms.length ≤ i
set_option maxRecDepth 100000 in
set_option maxHeartbeats 4000000 in
theorem sends_call (l : List Ms) (hn : l.length ≤ 20) (v mtu st nx sn : Int) (cb g : Nat) (hs : chkS v mtu = 0) (r : Nat) (hr : mtu - 15 = (r : Int)) (w : World) (hg : Snd w g cb v mtu st nx sn) (Al : Option Addr) (c : Nat) (hc : l.length ≤ c)
    (hAl : ∀ ad, Al = some ad → ad.block < w.heap.size ∧ ad.block ≠ g) (hCs : ∀ V, Keep (fun b => b < w.heap.size ∧ b ≠ g) w V → Kd.C k69 V Al l.length l) :
    Calls Tryz.prog 15 #[.pointer (some ⟨g, 0, none⟩), .agg #[.slice none 0 0, .slice none 0 0], .slice Al l.length c] w fun e w' => ∃ vr vl, e = .returned (.agg #[vr, vl]) ∧ Kd.R kRow 25 w' w.heap.size (fun _ => True) vr (sndR crcT v r nx l) ∧ Kd.R k69 69 w' w.heap.size (fun _ => True) vl (sndM v l) ∧ (∃ sn', Snd w' g cb v mtu st (sndN nx l) sn') ∧ Keep (fun b => b ≠ g) w w' := by
  have hgl : g < w.heap.size := (Array.getElem?_eq_some_iff.1 hg).1
  have HI := Lib.hid (And.intro hg (And.intro hAl (And.intro hCs (And.intro hgl (And.intro hs hr)))))
  obtain ⟨n, hln⟩ : ∃ n, l.length = n := ⟨_, rfl⟩
  have HN := Lib.hid hln
  rw [hln] at HI hn hc ⊢
  clear hg hAl hCs hgl hs hr hln
  go_enter Tryz.func15, Tryz.ntmps15
  go_wp2_with (fail)
  refine (frameNew_call _).mono ?_
  rintro e w1 ⟨cp, k, off, rfl, hcp, hT, hb⟩
  obtain ⟨b4, hb4⟩ : ∃ b4, w.heap.size = b4 := ⟨_, rfl⟩
  have v1 := (hb.block w.heap.size (by simp; omega)).trans (al2_a w _ _)
  have v2 := (hb.block (w.heap.size + 1) (by simp)).trans (al2_b w _ _)
  have v3 : Below w.heap.size w w1 := (((Below.refl _ w).alloc (Nat.le_refl _) _).alloc (by simp) _).trans (hb.mono (by simp; omega))
  have v4 : w.heap.size + 2 ≤ w1.heap.size := by have := hb.size; simp at this; omega
  have v5 := (v3.block g HI.out.2.2.2.1).trans HI.out.1
  rw [hb4] at v1 v2 v3 v4
  have HS := Lib.hid hb4
  have hgb : g < b4 := by rw [← hb4]; exact HI.out.2.2.2.1
  rw [hb4]
  have hS0 : SdI w1 g cb b4 v mtu st w1 nx sn [] [] := ⟨_, _, v1, Kd.R_nil _ _ _ _ _, Kd.R_nil _ _ _ _ _, v5, Keep.refl _ _, Nat.le_refl _⟩
  have HW := Lib.hid (And.intro v2 (And.intro v3 (And.intro v4 (And.intro hcp (And.intro hT hS0)))))
  clear v1 v2 v3 v4 v5 hb hb4 hcp hT hS0
  go_wp2_with (fail)
  go_loopw [8, 9, 10, 11, 12, 13] (fun i _ _ _ _ _ wr => ∃ (j : Nat) (nx' sn' : Int) (ys : List (List Int)) (ms : List Ms), i = .int .i64 (j : Int) ∧ j ≤ n ∧ Hid (SdI w1 g cb b4 v mtu st wr nx' sn' ys ms ∧ SdL l v r nx j nx' ys ms))
    (fun i _ _ _ _ _ _ => n - (intV i).toNat)
  case atStart => exact ⟨0, nx, sn, [], [], rfl, Nat.zero_le _, Lib.hid ⟨HW.out.2.2.2.2.2, rfl, rfl, rfl, Nat.zero_le _, Nat.zero_le _⟩⟩
  case round =>
    obtain ⟨j, nx', sn', ys, ms, rfl, hj, HJ⟩ := hrel
    by_cases hlt : j < n
    · have hjl : j < l.length := by have := HN.out; omega
      have hKw : ∀ V nx2 sn2 ys2 ms2, SdI w1 g cb b4 v mtu st V nx2 sn2 ys2 ms2 → Keep (fun b => b < w.heap.size ∧ b ≠ g) w V := fun V nx2 sn2 ys2 ms2 h => by
        obtain ⟨_, _, _, _, _, _, h5, _⟩ := h
        exact (Keep.of_below (by have := HW.out.2.1; rw [← HS.out] at this; exact this)).trans (h5.mono (fun b hb => ⟨by have := HW.out.2.2.1; have := HS.out; omega, hb.2, by have := HS.out; omega⟩))
      have HKW := Lib.hid hKw
      have hC := HI.out.2.2.1 wr (hKw _ _ _ _ _ HJ.out.1)
      obtain ⟨ad, Ap, cp1, Ac, cc1, rfl, hMA, hMR⟩ := at69 hC (j : Int) (by omega) (by omega)
      rw [Int.toNat_natCast] at hMA
      have hrd : rd69 l (j : Int) = l[j] := by simp [rd69, List.getD_eq_getElem?_getD, List.getElem?_eq_getElem hjl]
      have a1 := sndR_at crcT v r nx' l j hjl
      have a2 := sndM_at v l j hjl
      have a3 := sndN_at nx' l j hjl
      rw [← hrd] at a1 a2 a3
      have HA := Lib.hid (And.intro a1 (And.intro a2 (And.intro a3 (And.intro hMR hMA))))
      generalize hm : rd69 l (j : Int) = m at *
      have HM := Lib.hid hm
      obtain ⟨q0, q1, q2, q3, q4, q5, q6, q7, q8, q9, q10⟩ := hMA
      clear hKw hC hMR a1 a2 a3 hrd hm
      go_wp2_with (fail)
      refine (lawCut_call m wr Ap cp1 Ac cc1 HA.out.2.2.2.1).mono ?_
      rintro e w2 ⟨rfl, hb2⟩
      have hS2 := HJ.out.1.below hb2
      have hM2 := msr_cut (HA.out.2.2.2.1.below hb2)
      have hg2 : Snd w2 g cb v mtu st nx' sn' := by obtain ⟨_, _, _, _, _, h4, _⟩ := hS2; exact h4
      by_cases hk : chk (cutM m) = 0
      · have HFR := Lib.hid (sframes_call (cutM m) v mtu st nx' sn' cb g HI.out.2.2.2.2.1 hk w2 hg2 Ap cp1 Ac cc1 hM2 (fit_cut m) r HI.out.2.2.2.2.2)
        have HK := Lib.hid (And.intro hS2 hk)
        clear hb2 hS2 hM2 hg2 hk q0 q1 q2 q3 q4 q5 q6 q7 q8 q9 q10
        go_wp2_with (fail)
        refine HFR.out.mono ?_
        rintro e w3 ⟨vf, rfl, hRf, hS3, hK3⟩
        obtain ⟨fl, hfl⟩ : ∃ fl, frF v r nx' (cutM m) = fl := ⟨_, rfl⟩
        have hRf : Kd.R k133 133 w3 w2.heap.size (fun _ => True) vf fl := by rw [← hfl]; exact hRf
        obtain ⟨nx2, hnx⟩ : ∃ nx2, (nx' + 1) % 4294967296 = nx2 := ⟨_, rfl⟩
        obtain ⟨sn2, hsn⟩ : ∃ sn2, wrap64 (sn' + 1) = sn2 := ⟨_, rfl⟩
        rw [hnx, hsn] at hS3
        have hI3 := HK.out.1.sent (by omega) hK3 hS3
        have hC := HI.out.2.2.1 w3 (HKW.out _ _ _ _ _ hI3)
        obtain ⟨ad', Ap2, cp2, Ac2, cc2, e0, hMA, hMR⟩ := at69 hC (j : Int) (by omega) (by omega)
        cases e0
        rw [Int.toNat_natCast] at hMA
        rw [HM.out] at hMA hMR
        obtain ⟨Af, cf, rfl⟩ := Kd.R_slice hRf
        obtain ⟨vr, vl, s1, s2, s3, s4, s5, s6⟩ := hI3
        obtain ⟨Ar, cr, rfl⟩ := Kd.R_slice s2
        obtain ⟨Am, cm, rfl⟩ := Kd.R_slice s3
        have hadb := HI.out.2.1 ad rfl
        have hrr : 1 ≤ r ∧ r ≤ 242 := by have := chkS_ok HI.out.2.2.2.2.1; have := HI.out.2.2.2.2.2; omega
        have hFF := frF_len (nx := nx') (chkS_ok HI.out.2.2.2.2.1).1 (fit_cut m) HK.out.2 hrr
        have H3 := Lib.hid (And.intro s2 (And.intro s3 (And.intro s4 (And.intro s5 (And.intro s6 (And.intro s1 (And.intro hRf (And.intro hMR (And.intro hadb hrr)))))))))
        have HF := Lib.hid (And.intro hfl (And.intro hnx (And.intro hsn hFF)))
        obtain ⟨fnn, hfnn⟩ : ∃ fnn, fl.length = fnn := ⟨_, rfl⟩
        have HFN := Lib.hid hfnn
        rw [hfnn] at H3 ⊢
        obtain ⟨yl, hyl⟩ : ∃ yl, ys.length = yl := ⟨_, rfl⟩
        obtain ⟨ml, hml⟩ : ∃ ml, ms.length = ml := ⟨_, rfl⟩
        have HYL := Lib.hid (And.intro hyl hml)
        have g0 : w3.drew.cell? ⟨b4, 1, none⟩ = some (.slice Am ms.length cm) := cell_at s1 rfl
        have hMA0 : MsAt w3.drew (ad.add (j * 11)) m Ap2 cp2 Ac2 cc2 := ⟨hMA.h0, hMA.h1, hMA.h2, hMA.h3, hMA.h4, hMA.h5, hMA.h6, hMA.h7, hMA.h8, hMA.h9, hMA.h10⟩
        have hC0 : w3.drew.cell? ⟨b4, 1, none⟩ = some (.slice Am ms.length cm) ∧ MsAt w3.drew (ad.add (j * 11)) m Ap2 cp2 Ac2 cc2 := ⟨g0, hMA0⟩
        rw [hml] at hC0 H3
        clear hRf hS3 hK3 hC hMA hMR s1 s2 s3 s4 s5 s6 hadb hrr hFF hfl hnx hsn hfnn hyl hml g0 hMA0 HFR
        go_wp2_with (fail)
        refine wp_region_hoistD 14 [(0, 0), (1, 1), (2, 0), (3, 0), (4, 0), (5, 1), (7, 0), (6, 2), (8, 2), (9, 0), (10, 2), (11, 2), (12, 2), (13, 0), (14, 2)] (fun w' => w'.cell? ⟨b4, 1, none⟩ = some (.slice Am ml cm) ∧ MsAt w' (ad.add (j * 11)) m Ap2 cp2 Ac2 cc2) (by kernel_rfl) (by kernel_rfl) ?_
        apply wpD_pureL _ rfl rfl rfl
        · intro w'; go_simp; exact ⟨rfl, rfl⟩
        simp only [List.set_cons_zero, List.set_cons_succ]
        apply wpD_readL _ rfl rfl rfl
        · intro w' hw'; obtain ⟨h1, ⟨q0, q1, q2, q3, q4, q5, q6, q7, q8, q9, q10⟩⟩ := hw'; go_simp; exact ⟨rfl, rfl⟩
        simp only [List.set_cons_zero, List.set_cons_succ]
        apply wpD_pureL _ rfl rfl rfl
        · intro w'; go_simp; exact ⟨rfl, rfl⟩
        simp only [List.set_cons_zero, List.set_cons_succ]
        apply wpD_pureL _ rfl rfl rfl
        · intro w'; go_simp; exact ⟨rfl, rfl⟩
        simp only [List.set_cons_zero, List.set_cons_succ]
        apply wpD_pureL _ rfl rfl rfl
        · intro w'; go_simp; exact ⟨rfl, rfl⟩
        simp only [List.set_cons_zero, List.set_cons_succ]
        apply wpD_readL _ rfl rfl rfl
        · intro w' hw'; obtain ⟨h1, ⟨q0, q1, q2, q3, q4, q5, q6, q7, q8, q9, q10⟩⟩ := hw'; go_simp; exact ⟨rfl, rfl⟩
        simp only [List.set_cons_zero, List.set_cons_succ]
        apply wpD_pureL _ rfl rfl rfl
        · intro w'; go_simp; exact ⟨rfl, rfl⟩
        simp only [List.set_cons_zero, List.set_cons_succ]
        apply wpD_callL (f := 25) (args := #[.agg (Ms.cs m Ap2 cp2 Ac2 cc2)]) (fun _ => trivial) rfl rfl rfl (fun _ => hC0) rfl (fun c h => by cases h) (by kernel_rfl)
        refine callsIn_wide.2 ((lawCut_call m w3.drew Ap2 cp2 Ac2 cc2 (H3.out.2.2.2.2.2.2.2.1.below (Below.refl _ w3).drew)).mono ?_)
        rintro e w4 ⟨rfl, hb4⟩
        refine ⟨_, rfl, ?_⟩
        simp only [List.set_cons_zero, List.set_cons_succ]
        have hk4 : Keep (fun _ => True) w3.drew w4 := Keep.of_below hb4
        have hb4 : Below w3.heap.size w3 w4 := ((Below.refl _ w3).drew).trans hb4
        have hC4 : w4.cell? ⟨b4, 1, none⟩ = some (.slice Am ml cm) ∧ MsAt w4 (ad.add (j * 11)) m Ap2 cp2 Ac2 cc2 := ⟨Below_cell hb4 hC0.1, MsAt.keep (R := fun _ => True) hC0.2 hk4 trivial⟩
        have hs4 : Snd w4 g cb v mtu st nx2 sn2 := (hb4.block g (Array.getElem?_eq_some_iff.1 H3.out.2.2.1).1).trans H3.out.2.2.1
        apply wpD_callL (f := 44) (args := #[.pointer (some ⟨g, 0, none⟩)]) (fun _ => trivial) rfl rfl rfl (fun _ => hC4) rfl (fun c h => by cases h) (by kernel_rfl)
        refine callsIn_wide.2 ((conf_call w4 g cb v mtu st nx2 sn2 hs4).mono ?_)
        rintro e w5 ⟨rfl, hb5⟩
        refine ⟨_, rfl, ?_⟩
        simp only [List.set_cons_zero, List.set_cons_succ]
        have hC5 : w5.cell? ⟨b4, 1, none⟩ = some (.slice Am ml cm) ∧ MsAt w5 (ad.add (j * 11)) m Ap2 cp2 Ac2 cc2 := ⟨Below_cell hb5 hC4.1, MsAt.keep (R := fun _ => True) hC4.2 (Keep.of_below hb5) trivial⟩
        have hb35 : Below w3.heap.size w3 w5 := hb4.trans (hb5.mono hb4.size)
        apply wpD_pureL _ rfl rfl rfl
        · intro w'; go_simp; exact ⟨rfl, rfl⟩
        simp only [List.set_cons_zero, List.set_cons_succ]
        apply wpD_callL (f := 43) (args := #[mV (cutM m) Ap2 cp2 Ac2 cc2, .int .i64 v]) (fun _ => trivial) rfl rfl rfl (fun _ => hC5) rfl (fun c h => by cases h) (by kernel_rfl)
        refine callsIn_wide.2 ((project_call (cutM m) v w5 Ap2 cp2 Ac2 cc2 (msr_cut (H3.out.2.2.2.2.2.2.2.1.below hb35)) (fit_cut m)).mono ?_)
        rintro e w6 ⟨Bp, bp, Bc, bc, rfl, hMM, hb6⟩
        refine ⟨_, rfl, ?_⟩
        simp only [List.set_cons_zero, List.set_cons_succ]
        obtain ⟨pm, hpm⟩ : ∃ pm, prjM (cutM m) v = pm := ⟨_, rfl⟩
        have HPM := Lib.hid hpm
        rw [hpm] at hMM ⊢
        clear hpm
        have hC6 : w6.cell? ⟨b4, 1, none⟩ = some (.slice Am ml cm) ∧ MsAt w6 (ad.add (j * 11)) m Ap2 cp2 Ac2 cc2 := ⟨Below_cell hb6 hC5.1, MsAt.keep (R := fun _ => True) hC5.2 (Keep.of_below hb6) trivial⟩
        have hb36 : Below w3.heap.size w3 w6 := hb35.trans (hb6.mono hb35.size)
        have R6 := Kd.R_below H3.out.2.1 hb36
        have hw13 := H3.out.2.2.2.2.1
        obtain ⟨v1, w7, hrun, R7, hg7, hat⟩ := run_app_one (P := Tryz.prog) (W := w6) (base := w1.heap.size) (t := 53) (e := 69) (ty := 53) (ok := fun _ => True) (okp := fun q => w5.heap.size ≤ q) (p := pm) (cs := (pm.cs Bp bp Bc bc).toList) k69 under53 info69 rfl (by decide) (by decide) R6
          (k69_mkM (Kd.R_lower (Kd.R_mono (Kd.R_bound hMM.1) (ok' := fun q => w5.heap.size ≤ q) (fun q hq => hq.2.1)) (Nat.le_trans hw13 hb35.size)) (Kd.R_lower (Kd.R_mono (Kd.R_bound hMM.2) (ok' := fun q => w5.heap.size ≤ q) (fun q hq => hq.2.1)) (Nat.le_trans hw13 hb35.size)))
          (fun q hq => ⟨trivial, fun e => by have h1 := Kd.R_lt H3.out.2.1 q e.symm; have h2 := hb35.size; omega⟩) (fun _ _ => trivial) (Nat.le_trans hw13 hb36.size) (by have := HYL.out.2; have := HJ.out.2.2.2.2.2; omega)
        rw [Array.toArray_toList] at hrun
        obtain ⟨A9, c9, e9⟩ := Kd.R_slice R7
        rw [List.length_append, List.length_singleton, HYL.out.2] at e9
        subst e9
        apply wpD_valueL (w := w6) (.slice (some ⟨w6.heap.size, 0, none⟩) 1 1) (w' := w6.alloc (.cells (Ms.cs pm Bp bp Bc bc) 69)) (fun _ => trivial) rfl rfl (fun _ => hC6) rfl (fun c h => by cases h) (by kernel_rfl)
        simp only [List.set_cons_zero, List.set_cons_succ]
        have bA6 : Below w6.heap.size w6 (w6.alloc (.cells (Ms.cs pm Bp bp Bc bc) 69)) := (Below.refl _ _).alloc (Nat.le_refl _) _
        have hC6' : (w6.alloc (.cells (Ms.cs pm Bp bp Bc bc) 69)).cell? ⟨b4, 1, none⟩ = some (.slice Am ml cm) ∧ MsAt (w6.alloc (.cells (Ms.cs pm Bp bp Bc bc) 69)) (ad.add (j * 11)) m Ap2 cp2 Ac2 cc2 := ⟨Below_cell bA6 hC6.1, MsAt.keep (R := fun _ => True) hC6.2 (Keep.of_below bA6) trivial⟩
        apply wpD_valueL (.slice A9 (ml + 1) c9) (w' := w7) (fun _ => trivial) rfl rfl (fun _ => hC6') rfl (fun c h => by cases h) (exec_app rfl hrun)
        simp only [List.set_cons_zero, List.set_cons_succ]
        have hown : ∀ q, (Value.slice Am ml cm).ownBlock = some q → w1.heap.size ≤ q := fun q e => Kd.R_base R6 q e
        have hk7 : Keep (fun b => b < w1.heap.size) w6 w7 := Keep.grown hg7 (fun q e h => by have := hown q e; omega)
        have hb4l : b4 < w1.heap.size := by have := HW.out.2.2.1; omega
        have hadd : (ad.add (j * 11)).block = ad.block := by unfold Addr.add; split <;> rfl
        have hadl : ad.block < w1.heap.size := by have h1 := H3.out.2.2.2.2.2.2.2.2.1.1; have := HS.out; omega
        have hC7 : w7.cell? ⟨b4, 1, none⟩ = some (.slice Am ml cm) ∧ MsAt w7 (ad.add (j * 11)) m Ap2 cp2 Ac2 cc2 := ⟨hk7.cell hC6.1 hb4l, MsAt.keep hC6.2 hk7 (by show (ad.add (j * 11)).block < w1.heap.size; rw [hadd]; omega)⟩
        have b7 : w7.heap[b4]? = some (.cells #[.slice Ar ys.length cr, .slice Am ml cm] 61) := hk7.same _ _ ((hb36.block b4 (Array.getElem?_eq_some_iff.1 H3.out.2.2.2.2.2.1).1).trans H3.out.2.2.2.2.2.1) hb4l
        have z7 : w7.frozen? ⟨b4, 1, none⟩ = false := frozen_at b7
        apply wpD_pureL _ rfl rfl rfl
        · intro w'; go_simp; exact ⟨rfl, rfl⟩
        simp only [List.set_cons_zero, List.set_cons_succ]
        apply wpD_storeL (w' := w7.setCell ⟨b4, 1, none⟩ (.slice A9 (ml + 1) c9)) (fun _ => trivial) rfl rfl (fun _ => hC7) rfl (fun c h => by cases h)
        · have y1 := hC7.1
          go_simp
        refine wpD_end ?_
        have hst : Stab (fun b => b = b4) w7.heap.size w7 (w7.setCell ⟨b4, 1, none⟩ (.slice A9 (ml + 1) c9)) := (Stab.refl _ _ _).set1 1 _
        have hg7' : w7.heap[g]? = some (.cells #[.int .i64 v, .int .i64 mtu, .int .u32 st, .pointer (some ⟨cb, 0, none⟩), .int .u32 nx2, .int .i64 sn2] 146) := hk7.same _ _ ((hb36.block g (Array.getElem?_eq_some_iff.1 H3.out.2.2.1).1).trans H3.out.2.2.1) (by omega)
        have hXI : SdI w1 g cb b4 v mtu st (w7.setCell ⟨b4, 1, none⟩ (.slice A9 (ml + 1) c9)) nx2 sn2 ys (ms ++ [pm]) :=
          ⟨_, _, hs_at b7 rfl, Kd.R_set (R_other (e2 := 69) (Kd.R_below H3.out.1 hb36) hg7 (Kd.R_typed R6) (by decide)) b7 (by decide) 1 _, Kd.R_set R7 b7 (by decide) 1 _, hst.heap1 hg7' (by omega),
            ((H3.out.2.2.2.1.trans (Keep.of_below hb36)).trans (hk7.mono (fun b hb => hb.1))).trans (StabN.keep hst (fun b hb _ h => hb.2.2 h)), Nat.le_trans hw13 (Nat.le_trans hb36.size (Nat.le_trans hk7.size hst.size))⟩
        have hXF : Kd.R k133 133 (w7.setCell ⟨b4, 1, none⟩ (.slice A9 (ml + 1) c9)) w2.heap.size (fun _ => True) (.slice Af fnn cf) fl := Kd.R_set (R_other (e2 := 69) (Kd.R_below H3.out.2.2.2.2.2.2.1 hb36) hg7 (Kd.R_typed R6) (by decide)) b7 (by decide) 1 _
        generalize w7.setCell ⟨b4, 1, none⟩ (.slice A9 (ml + 1) c9) = X at hXI hXF ⊢
        have HX := Lib.hid (And.intro hXI hXF)
        clear hst hg7' hXI hXF z7 b7 hC7 hadl hadd hb4l hk7 hown hC6' bA6 hat hg7 hrun R7 hw13 R6 hb36 hC6 hMM hb6 hb35 hC5 hb5 hs4 hC4 hk4 hb4 hC0
        go_wp2_with (fail)
        go_loopw [11, 12, 13] (fun ki _ _ wr => ∃ (kk : Nat), ki = .int .i64 (kk : Int) ∧ kk ≤ fnn ∧ Hid (SdI w1 g cb b4 v mtu st wr nx2 sn2 (ys ++ (rowsF crcT fl).take kk) (ms ++ [pm]) ∧ Kd.R k133 133 wr w2.heap.size (fun _ => True) (.slice Af fnn cf) fl))
          (fun ki _ _ _ => fnn - (intV ki).toNat)
        case atStart => exact ⟨0, rfl, Nat.zero_le _, Lib.hid ⟨by rw [List.take_zero, List.append_nil]; exact HX.out.1, HX.out.2⟩⟩
        case round =>
          obtain ⟨kk, rfl, hkk, HJ2⟩ := hrel
          by_cases hlt2 : kk < fnn
          · obtain ⟨hXI, hXF⟩ := HJ2.out
            obtain ⟨Af', cf', e0, hcf, hCF⟩ := Kd.R_reads hXF
            rw [HFN.out] at e0 hCF
            obtain ⟨rfl, -, rfl⟩ : Af = Af' ∧ fnn = fnn ∧ cf = cf' := by simpa using e0
            obtain ⟨adf, f, Apl, cpl, rfl, hfg, d0, d1, d2, d3, d4, d5, hcpl, hCpl⟩ := at133 hCF kk hlt2
            have hfo := frF_get (chkS_ok HI.out.2.2.2.2.1).1 (fit_cut m) HK.out.2 H3.out.2.2.2.2.2.2.2.2.2 (by rw [HF.out.1]; exact hfg)
            have hcode := hXI.code HW.out.2.2.2.2.2 HW.out.2.2.2.1 HW.out.2.2.2.2.1
            have bA : Below wr.heap.size wr (wr.alloc (.cells #[.int .i64 f.h.v, .int .i64 f.h.k, .int .u32 f.h.s, .int .i64 f.h.i, .int .i64 f.h.n, .slice Apl f.p.length cpl] 133)) := (Below.refl _ _).alloc (Nat.le_refl _) _
            have hpk := pack_call f.h hfo.1 (wr.alloc (.cells #[.int .i64 f.h.v, .int .i64 f.h.k, .int .u32 f.h.s, .int .i64 f.h.i, .int .i64 f.h.n, .slice Apl f.p.length cpl] 133)) ⟨cp, 0, none⟩ k off crcT (Below_cell bA hcode.1) (hcode.2.below bA) Apl cpl f.p (Kd.C_below hCpl bA) hcpl hfo.2.1 hfo.2.2 wr.heap.size (World.alloc_heap_new wr _)
            have hrow : (rowsF crcT fl)[kk]? = some ([0] ++ segm crcT f.h f.p ++ [0]) := by unfold rowsF; rw [List.getElem?_map, hfg]; rfl
            obtain ⟨row, hrw⟩ : ∃ row, [0] ++ segm crcT f.h f.p ++ [0] = row := ⟨_, rfl⟩
            rw [hrw] at hpk hrow
            have HP := Lib.hid (And.intro hpk (And.intro hXI (And.intro hXF (And.intro bA hrow))))
            clear hpk hXI hXF bA hrow hrw hfo hcode hcf hCF e0 hfg hCpl HX
            go_wp2_with (fail)
            refine HP.out.1.mono ?_
            rintro e wP ⟨vp, rfl, hRp, hbp⟩
            have hbX : Below wr.heap.size wr wP := HP.out.2.2.2.1.trans (hbp.mono HP.out.2.2.2.1.size)
            have hFP := Kd.R_below HP.out.2.2.1 hbX
            obtain ⟨Ap9, cp9, rfl⟩ := Kd.R_slice hRp
            obtain ⟨vr2, vl2, t1, t2, t3, t4, t5, t6⟩ := HP.out.2.1
            obtain ⟨Ar2, cr2, rfl⟩ := Kd.R_slice t2
            obtain ⟨Am2, cm2, rfl⟩ := Kd.R_slice t3
            have hlt9 : ∀ q, (Value.slice Ar2 (ys ++ (rowsF crcT fl).take kk).length cr2).ownBlock = some q → q < wr.heap.size := fun q e => Kd.R_lt t2 q e
            have s1 := (hbX.block b4 (Array.getElem?_eq_some_iff.1 t1).1).trans t1
            have s2 := Kd.R_below t2 hbX
            have s3 := Kd.R_below t3 hbX
            have s4 := (hbX.block g (Array.getElem?_eq_some_iff.1 t4).1).trans t4
            have s5 := t5.trans (Keep.of_below hbX)
            have s6 := Nat.le_trans t6 hbX.size
            have hsz : (ys ++ (rowsF crcT fl).take kk).length ≤ 5000 := by
              rw [List.length_append, List.length_take]
              have h1 := HJ.out.2.2.2.2.1
              have h2 := HF.out.2.2.2.2
              rw [HF.out.1, HFN.out] at h2
              omega
            obtain ⟨v9, w9, hrun, R9, hg9, hat⟩ := run_app_one (P := Tryz.prog) (W := wP) (base := w1.heap.size) (t := 59) (e := 25) (ty := 59) (ok := fun _ => True) (okp := fun q => wr.heap.size + 1 ≤ q) (p := row) (cs := [.slice Ap9 row.length cp9]) kRow under59 info25 rfl (by decide) (by decide) s2
              ⟨_, rfl, Kd.R_lower (Kd.R_mono (Kd.R_bound hRp) (ok' := fun q => wr.heap.size + 1 ≤ q) (fun q hq => by have := hq.2.1; simp at this; omega)) (Nat.le_trans t6 (by simp))⟩
              (fun q hq => ⟨trivial, fun e => by have := hlt9 q e.symm; omega⟩) (fun _ _ => trivial) s6 (by omega)
            obtain ⟨A9, c9, e9⟩ := Kd.R_slice R9
            rw [List.length_append, List.length_singleton] at e9
            subst e9
            have hown : ∀ q, (Value.slice Ar2 (ys ++ (rowsF crcT fl).take kk).length cr2).ownBlock = some q → w1.heap.size ≤ q := fun q e => Kd.R_base s2 q e
            have hk9 : Keep (fun b => b < w1.heap.size) wP w9 := Keep.grown hg9 (fun q e h => by have := hown q e; omega)
            have hb4l : b4 < w1.heap.size := by have := HW.out.2.2.1; omega
            have b9 := hk9.same _ _ s1 hb4l
            have m9 := R_other (e2 := 25) s3 hg9 (Kd.R_typed s2) (by decide)
            have f9 := R_other (e2 := 25) hFP hg9 (Kd.R_typed s2) (by decide)
            have g9 := hk9.same _ _ s4 (by omega)
            have n9 := s5.trans (hk9.mono (fun b hb => hb.1))
            have hnx : (ys ++ (rowsF crcT fl).take kk) ++ [row] = ys ++ (rowsF crcT fl).take (kk + 1) := by
              rw [List.append_assoc, List.take_add_one, HP.out.2.2.2.2]; rfl
            rw [hnx] at R9
            obtain ⟨yl2, hyl2⟩ : ∃ yl2, (ys ++ (rowsF crcT fl).take kk).length = yl2 := ⟨_, rfl⟩
            have HE := Lib.hid (And.intro R9 (And.intro m9 (And.intro f9 (And.intro g9 (And.intro n9 (And.intro b9 (And.intro (Nat.le_trans s6 hk9.size) (And.intro hnx hyl2))))))))
            have cB0 : wP.cell? ⟨b4, 0, none⟩ = some (.slice Ar2 (ys ++ (rowsF crcT fl).take kk).length cr2) := cell_at s1 rfl
            have cB9 : w9.cell? ⟨b4, 0, none⟩ = some (.slice Ar2 (ys ++ (rowsF crcT fl).take kk).length cr2) := cell_at b9 rfl
            have fB9 : w9.frozen? ⟨b4, 0, none⟩ = false := frozen_at b9
            have HRW := Lib.hid hrun
            rw [hyl2] at cB0 cB9 hrun
            clear R9 m9 f9 g9 n9 b9 hnx hyl2 hk9 hown hat hg9 hsz s1 s2 s3 s4 s5 s6 t1 t2 t3 t4 t5 t6 hlt9 hFP hRp hbp hbX HRW d0 d1 d2 d3 d4 d5
            obtain ⟨rl, hrl⟩ : ∃ rl, row.length = rl := ⟨_, rfl⟩
            rw [hrl] at hrun ⊢
            have hfb : fnn ≤ 192 := by have h2 := HF.out.2.2.2.2; rw [HF.out.1, HFN.out] at h2; exact h2
            have EKK : Hid (wrap64 ((kk : Int) + 1) = (kk : Int) + 1) := Lib.hid (by unfold wrap64; omega)
            clear hrl hfb
            go_wp2_with (at_builtin; refine run_app (.tmp 64) (.tmp 66) 59 rfl rfl hrun ?_)
            rw [EKK.out]
            clear hrun cB0 cB9 fB9
            go_simp
            obtain ⟨R9, m9, f9, g9, n9, b9, z9, hnx, hyl2⟩ := HE.out
            rw [hyl2] at R9 b9
            have hst9 : Stab (fun b => b = b4) w9.heap.size w9 (w9.setCell ⟨b4, 0, none⟩ (.slice A9 (yl2 + 1) c9)) := (Stab.refl _ _ _).set1 0 _
            have hXX : SdI w1 g cb b4 v mtu st (w9.setCell ⟨b4, 0, none⟩ (.slice A9 (yl2 + 1) c9)) nx2 sn2 (ys ++ (rowsF crcT fl).take (kk + 1)) (ms ++ [pm]) :=
              ⟨_, _, hs_at b9 rfl, Kd.R_set R9 b9 (by decide) 0 _, Kd.R_set m9 b9 (by decide) 0 _, hst9.heap1 g9 (by omega), n9.trans (StabN.keep hst9 (fun b hb _ h => hb.2.2 h)), Nat.le_trans z9 hst9.size⟩
            have hFF := Kd.R_set f9 b9 (by decide) 0 (.slice A9 (yl2 + 1) c9)
            exact ⟨⟨kk + 1, by simp, hlt2, Lib.hid ⟨hXX, hFF⟩⟩, by simp [intV]; omega⟩
          · obtain rfl : kk = fnn := by omega
            go_wp2_with (fail)
            obtain ⟨l1, l2, l3, l4, l5⟩ := HJ.out.2
            obtain ⟨a1, a2, a3, -⟩ := HA.out
            rw [if_pos HK.out.2] at a1 a2 a3
            have hrl : (rowsF crcT fl).length = kk := by rw [← HFN.out]; simp [rowsF]
            have hX1 := HJ2.out.1
            rw [List.take_of_length_le (by omega)] at hX1
            refine ⟨⟨j + 1, nx2, sn2, ys ++ rowsF crcT fl, ms ++ [pm], by simp, hlt, Lib.hid ⟨hX1, ?_, ?_, ?_, ?_, ?_⟩⟩, by simp [intV]; omega⟩
            · rw [l1, a1, HF.out.1, HF.out.2.1, List.append_assoc]
            · rw [l2, a2, HPM.out, List.append_assoc]; rfl
            · rw [l3, a3, HF.out.2.1]
            · rw [List.length_append, hrl]
              have := HF.out.2.2.2.2
              rw [HF.out.1, HFN.out] at this
              omega
            · rw [List.length_append, List.length_singleton]; omega
      · have HFR := Lib.hid (sframes_bad (cutM m) v mtu st nx' sn' cb g (chkS_ok HI.out.2.2.2.2.1).1 hk w2 hg2 Ap cp1 Ac cc1 hM2 (fit_cut m))
        have HK := Lib.hid (And.intro hS2 hk)
        have hne : (chk (cutM m) != 0) = true := by simpa using hk
        clear hb2 hS2 hM2 hg2 hk q0 q1 q2 q3 q4 q5 q6 q7 q8 q9 q10
        go_wp2_with (fail)
        refine HFR.out.mono ?_
        rintro e w3 ⟨rfl, hb3⟩
        have HK3 := Lib.hid (HK.out.1.below hb3)
        clear hb3 HFR
        go_wp2_with (fail)
        obtain ⟨a1, a2, a3, -⟩ := HA.out
        rw [if_neg HK.out.2] at a1 a2 a3
        obtain ⟨l1, l2, l3, l4, l5⟩ := HJ.out.2
        exact ⟨⟨j + 1, nx', sn', ys, ms, by simp, hlt, Lib.hid ⟨HK3.out, by rw [l1, a1], by rw [l2, a2], by rw [l3, a3], by omega, by omega⟩⟩, by simp [intV]; omega⟩
    · obtain rfl : j = n := by omega
      obtain ⟨l1, l2, l3, -, -⟩ := HJ.out.2
      have hl0 : l.drop j = [] := List.drop_eq_nil_of_le (by have := HN.out; omega)
      rw [hl0] at l1 l2 l3
      obtain ⟨vr, vl, h1, h2, h3, h4, h5, h6⟩ := HJ.out.1
      have z1 := h5.same _ _ HW.out.1 ⟨by have := HW.out.2.2.1; omega, by omega, by omega⟩
      obtain ⟨Ar, cr, rfl⟩ := Kd.R_slice h2
      obtain ⟨Am, cm, rfl⟩ := Kd.R_slice h3
      have c0 : wr.cell? ⟨b4, 0, none⟩ = some (.slice Ar ys.length cr) := cell_at h1 rfl
      have c1 : wr.cell? ⟨b4, 1, none⟩ = some (.slice Am ms.length cm) := cell_at h1 rfl
      have r0 : wr.cell? ⟨b4 + 1, 0, none⟩ = some (.slice none 0 0) := cell_at z1 rfl
      have r1 : wr.cell? ⟨b4 + 1, 1, none⟩ = some (.slice none 0 0) := cell_at z1 rfl
      have f0 : wr.frozen? ⟨b4 + 1, 0, none⟩ = false := frozen_at z1
      have f1 : wr.frozen? ⟨b4 + 1, 1, none⟩ = false := frozen_at z1
      have hKw2 : Keep (fun b => b ≠ g) w wr := by
        have v3 := HW.out.2.1
        refine ⟨h5.os.trans v3.os, h5.tape.trans v3.tape, h5.output.trans v3.output, Nat.le_trans v3.size h5.size, fun b o hb hR => ?_⟩
        have hlt : b < b4 := by rw [← HS.out]; exact (Array.getElem?_eq_some_iff.1 hb).1
        exact h5.same _ _ ((v3.block b hlt).trans hb) ⟨by have := HW.out.2.2.1; omega, hR, by omega⟩
      have HE := Lib.hid (And.intro l1 (And.intro l2 (And.intro l3 (And.intro h2 (And.intro h3 (And.intro h4 (And.intro h6 (And.intro z1 hKw2))))))))
      clear l1 l2 l3 hl0 h1 h2 h3 h4 h5 h6 z1 hKw2
      go_wp2_with (fail)
      obtain ⟨l1, l2, l3, h2, h3, h4, h6, z1, hKw2⟩ := HE.out
      have st1 : Stab (fun b => b = b4 + 1) wr.heap.size wr ((wr.setCell ⟨b4 + 1, 0, none⟩ (.slice Ar ys.length cr)).setCell ⟨b4 + 1, 1, none⟩ (.slice Am ms.length cm)) := ((Stab.refl _ _ _).set1 0 _).set1 1 _
      have x1 : ((wr.setCell ⟨b4 + 1, 0, none⟩ (.slice Ar ys.length cr)).setCell ⟨b4 + 1, 1, none⟩ (.slice Am ms.length cm)).heap[b4 + 1]? = some (.cells #[.slice Ar ys.length cr, .slice Am ms.length cm] 61) := hs_at (hs_at z1 rfl) rfl
      generalize (wr.setCell ⟨b4 + 1, 0, none⟩ (.slice Ar ys.length cr)).setCell ⟨b4 + 1, 1, none⟩ (.slice Am ms.length cm) = X at st1 x1 ⊢
      have y0 : X.cell? ⟨b4 + 1, 0, none⟩ = some (.slice Ar ys.length cr) := cell_at x1 rfl
      have y1 : X.cell? ⟨b4 + 1, 1, none⟩ = some (.slice Am ms.length cm) := cell_at x1 rfl
      have hz := HW.out.2.2.1
      refine bodyPost_ret (v := .agg #[.slice Ar ys.length cr, .slice Am ms.length cm]) (by simp [results, Tryz.results15, go_sem, y0, y1]) rfl ⟨_, _, rfl, ?_, ?_, ⟨sn', ?_⟩, ?_⟩
      · rw [l1]; show Kd.R kRow 25 X w.heap.size (fun _ => True) _ (ys ++ [])
        rw [List.append_nil]
        exact Kd.R_lower (Stab.R h2 st1 (by omega)) (by have := HS.out; omega)
      · rw [l2]; show Kd.R k69 69 X w.heap.size (fun _ => True) _ (ms ++ [])
        rw [List.append_nil]
        exact Kd.R_lower (Stab.R h3 st1 (by omega)) (by have := HS.out; omega)
      · rw [l3]; exact st1.heap1 h4 (by omega)
      · refine ⟨st1.os.trans hKw2.os, st1.tape.trans hKw2.tape, st1.output.trans hKw2.output, Nat.le_trans hKw2.size st1.size, fun b o hb hR => ?_⟩
        have hlt : b < b4 := by rw [← HS.out]; exact (Array.getElem?_eq_some_iff.1 hb).1
        exact st1.same _ _ (hKw2.same _ _ hb hR) (by show ¬ b = b4 + 1; omega) (.inr (by omega))
end Go.Proofs.YtgdlpgakhhebeaaGreatDoor
end
