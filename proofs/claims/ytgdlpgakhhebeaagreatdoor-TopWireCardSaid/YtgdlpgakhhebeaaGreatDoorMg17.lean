/- Part 17 of the proof of TopWire: Msg, Msc, Mtx, Mwr. -/
import Derived.Lib.ConvBytes
import Derived.Test.YtgdlpgakhhebeaaGreatDoorMg13
import Derived.Test.YtgdlpgakhhebeaaGreatDoorMg16
section
set_option linter.unusedVariables false
set_option linter.unusedSimpArgs false
namespace Go.Proofs.YtgdlpgakhhebeaaGreatDoor
open Go.RowKit Go.Proofs.YtgdlpgakhhebeaaGreatDoorW.PrintWords Go.Proofs.YtgdlpgakhhebeaaGreatDoorW.PrintMore

/-- A message. -/
structure Ms where
  k : Int
  n0 : Int
  n1 : Int
  n2 : Int
  n3 : Int
  n4 : Int
  n5 : Int
  path : List P.S217
  cells : List Int
  text : ByteArray
  tag : ByteArray
def z69 : Ms := ⟨0, 0, 0, 0, 0, 0, 0, [], [], ⟨#[]⟩, ⟨#[]⟩⟩
/-- A string's bytes. -/
def bts (s : ByteArray) : List Int := s.data.toList.map fun b => (b.toNat : Int)
theorem bts_len (s : ByteArray) : (bts s).length = s.size := by simp only [bts, List.length_map, Array.length_toList]; rfl
def k69 : Kd Ms := Kd.iso (Kd.pair (Kd.int .i64) (Kd.pair (Kd.int .i64) (Kd.pair (Kd.int .i64) (Kd.pair (Kd.int .i64) (Kd.pair (Kd.int .i64) (Kd.pair (Kd.int .i64) (Kd.pair (Kd.int .i64) (Kd.pair (Kd.slice 217 P.k217) (Kd.pair (Kd.slice 3 (Kd.int .i64)) (Kd.pair Kd.string Kd.string)))))))))) (fun x : Ms => (x.k, x.n0, x.n1, x.n2, x.n3, x.n4, x.n5, x.path, x.cells, x.text, x.tag))
/-- A message's value: its rows are read in w. -/
structure MsR (w : World) (m : Ms) (Ap : Option Addr) (cp : Nat) (Ac : Option Addr) (cc : Nat) : Prop where
  lp : m.path.length ≤ cp
  lc : m.cells.length ≤ cc
  path : Kd.C P.k217 w Ap m.path.length m.path
  cells : Kd.C (Kd.int .i64) w Ac m.cells.length m.cells
def Ms.cs (m : Ms) (Ap : Option Addr) (cp : Nat) (Ac : Option Addr) (cc : Nat) : Array Value :=
  #[.int .i64 m.k, .int .i64 m.n0, .int .i64 m.n1, .int .i64 m.n2, .int .i64 m.n3, .int .i64 m.n4, .int .i64 m.n5, .slice Ap m.path.length cp, .slice Ac m.cells.length cc, .string m.text, .string m.tag]
theorem MsR.below {w w' : World} {m : Ms} {Ap Ac : Option Addr} {cp cc : Nat} (h : MsR w m Ap cp Ac cc) (hb : Below w.heap.size w w') : MsR w' m Ap cp Ac cc := ⟨h.lp, h.lc, Kd.C_below h.path hb, Kd.C_below h.cells hb⟩
theorem k69_open {w : World} {x : Ms} {cs : List Value} (h : k69.K w x cs) : ∃ Ap cp Ac cc, cs = (x.cs Ap cp Ac cc).toList ∧ MsR w x Ap cp Ac cc := by
  obtain ⟨_, _, rfl, rfl, ⟨_, _, rfl, rfl, ⟨_, _, rfl, rfl, ⟨_, _, rfl, rfl, ⟨_, _, rfl, rfl, ⟨_, _, rfl, rfl, ⟨_, _, rfl, rfl, ⟨_, _, rfl, ⟨Ap, cp, rfl, l0, g0⟩, ⟨_, _, rfl, ⟨Ac, cc, rfl, l1, g1⟩, ⟨_, _, rfl, rfl, rfl⟩⟩⟩⟩⟩⟩⟩⟩⟩⟩ := h
  exact ⟨Ap, cp, Ac, cc, rfl, l0, l1, g0, g1⟩

def getN (m : Ms) (p : Int) : Int := if p = 0 then m.n0 else if p = 1 then m.n1 else if p = 2 then m.n2 else if p = 3 then m.n3 else if p = 4 then m.n4 else m.n5
def setN (m : Ms) (p v : Int) : Ms := if p = 0 then { m with n0 := v } else if p = 1 then { m with n1 := v } else if p = 2 then { m with n2 := v } else if p = 3 then { m with n3 := v } else if p = 4 then { m with n4 := v } else { m with n5 := v }

def flds (k : Int) : List P.S150 := (P.field_Of.f k).getD []
theorem flds_some (k : Int) : P.field_Of.f k = some (flds k) := by
  have e : ∃ l, P.field_Of.f k = some l := by
    unfold P.field_Of.f P.field_robot.f
    repeat' split
    all_goals exact ⟨_, rfl⟩
  obtain ⟨l, e⟩ := e
  unfold flds
  rw [e]; rfl

/-- A path. -/
theorem path_l0 (l : List P.S217) (hl : l.length ≤ 1000) : ∀ (k i : Nat), i ≤ l.length → l.length - i < k → ∃ r, P.msg_path.l0 k l (l.length : Int) (i : Int) = some r ∧ (r = 0 → ∀ p ∈ l.drop i, inR p)
  | 0, i, _, h => by omega
  | k + 1, i, hi, hk => by
    by_cases hlt : i < l.length
    · have hrd : P.rd_T217 l (i : Int) = l[i] := by simp [P.rd_T217, List.getD_eq_getElem?_getD, List.getElem?_eq_getElem hlt]
      obtain ⟨r, h1, h2⟩ := path_l0 l hl k (i + 1) hlt (by omega)
      unfold P.msg_path.l0
      rw [if_pos (by omega), if_pos (by omega), if_pos (by omega), hrd]
      have hw : wrap64 ((i : Int) + 1) = ((i + 1 : Nat) : Int) := by unfold wrap64; omega
      rw [hw]
      by_cases c1 : mx l[i].f0 l[i].f1 > 1000000
      · rw [if_pos c1]; exact ⟨5, rfl, fun h => by omega⟩
      · rw [if_neg c1]
        by_cases c2 : mn l[i].f0 l[i].f1 < -1000000
        · rw [if_pos c2]; exact ⟨5, rfl, fun h => by omega⟩
        · rw [if_neg c2]
          refine ⟨r, h1, fun h0 p hp => ?_⟩
          rw [List.drop_eq_getElem_cons hlt] at hp
          rcases List.mem_cons.1 hp with rfl | hp
          · unfold mx at c1; unfold mn at c2
            unfold inR
            split at c1 <;> split at c2 <;> omega
          · exact h2 h0 p hp
    · obtain rfl : i = l.length := by omega
      unfold P.msg_path.l0
      rw [if_neg (by omega)]
      exact ⟨0, rfl, fun _ p hp => by simp at hp⟩
theorem many_f (n : Int) (f : P.S150) : P.msg_many.f n f.f0 f.f1 f.f2 f.f3 f.f4 f.f5 f.f6 = some (if n < f.f3 then 13 else if n > f.f4 then 6 else 0) := by
  unfold P.msg_many.f
  repeat' split
  all_goals rfl
def manyW (n : Int) (f : P.S150) : Int := if n < f.f3 then 13 else if n > f.f4 then 6 else 0
theorem manyW_zero {n : Int} {f : P.S150} (h : manyW n f = 0) : f.f3 ≤ n ∧ n ≤ f.f4 := by
  unfold manyW at h
  split at h
  · omega
  · split at h <;> omega
def pathW (l : List P.S217) (f : P.S150) : Int := (P.msg_path.f 1002 l f.f0 f.f1 f.f2 f.f3 f.f4 f.f5 f.f6).getD 0
theorem pathW_some (l : List P.S217) (f : P.S150) (hl : l.length ≤ 1000) : P.msg_path.f 1002 l f.f0 f.f1 f.f2 f.f3 f.f4 f.f5 f.f6 = some (pathW l f) ∧ (pathW l f = 0 → (f.f3 ≤ l.length ∧ l.length ≤ f.f4) ∧ ∀ p ∈ l, inR p) := by
  have e : ∃ r, P.msg_path.f 1002 l f.f0 f.f1 f.f2 f.f3 f.f4 f.f5 f.f6 = some r ∧ (r = 0 → (f.f3 ≤ l.length ∧ l.length ≤ f.f4) ∧ ∀ p ∈ l, inR p) := by
    unfold P.msg_path.f
    rw [many_f]
    simp only [Option.bind_some]
    by_cases h : (if (l.length : Int) < f.f3 then (13 : Int) else if (l.length : Int) > f.f4 then 6 else 0) = 0
    · rw [if_pos h]
      obtain ⟨r, h1, h2⟩ := path_l0 l hl 1002 0 (Nat.zero_le _) (by omega)
      exact ⟨r, h1, fun h0 => ⟨manyW_zero h, fun p hp => h2 h0 p (by simpa using hp)⟩⟩
    · rw [if_neg h]
      exact ⟨_, rfl, fun h0 => absurd h0 h⟩
  obtain ⟨r, h1, h2⟩ := e
  unfold pathW
  rw [h1]
  exact ⟨rfl, h2⟩
/-- Cells. -/
theorem cells_l0 (l : List Int) (hl : l.length ≤ 1000) : ∀ (k i : Nat) (x : Int), i ≤ l.length → 2 * (l.length - i) < k → ∃ r, P.msg_cells.l0 k x l (l.length : Int) (i : Int) = some r ∧ (r = 0 → inc x (l.drop i))
  | 0, i, _, _, h => by omega
  | 1, i, x, hi, hk => by
    obtain rfl : i = l.length := by omega
    unfold P.msg_cells.l0
    rw [if_neg (by omega)]
    exact ⟨0, rfl, fun _ => by simp [inc]⟩
  | k + 2, i, x, hi, hk => by
    by_cases hlt : i < l.length
    · have hrd : rd l (i : Int) = l[i] := by simp [rd, List.getD_eq_getElem?_getD, List.getElem?_eq_getElem hlt]
      obtain ⟨r, h1, h2⟩ := cells_l0 l hl k (i + 1) l[i] hlt (by omega)
      have hw : wrap64 ((i : Int) + 1) = ((i + 1 : Nat) : Int) := by unfold wrap64; omega
      unfold P.msg_cells.l0
      rw [if_pos (by omega), if_pos (by omega), if_pos (by omega), hrd]
      by_cases c1 : l[i] < 0
      · rw [if_pos c1]
        unfold P.msg_cells.j1
        exact ⟨5, by simp, fun h => by omega⟩
      · rw [if_neg c1]
        unfold P.msg_cells.j1
        by_cases c2 : l[i] > 65535
        · exact ⟨5, by simp [c2], fun h => by omega⟩
        · rw [if_neg (by simp; omega), hw]
          by_cases c3 : l[i] ≤ x
          · rw [if_pos c3]; exact ⟨3, rfl, fun h => by omega⟩
          · rw [if_neg c3]
            refine ⟨r, h1, fun h0 => ?_⟩
            rw [List.drop_eq_getElem_cons hlt]
            exact ⟨by omega, by omega, h2 h0⟩
    · obtain rfl : i = l.length := by omega
      unfold P.msg_cells.l0
      rw [if_neg (by omega)]
      exact ⟨0, rfl, fun _ => by simp [inc]⟩
def cellsW (l : List Int) (f : P.S150) : Int := (P.msg_cells.f 2002 l f.f0 f.f1 f.f2 f.f3 f.f4 f.f5 f.f6).getD 0
theorem cellsW_some (l : List Int) (f : P.S150) (hl : l.length ≤ 1000) : P.msg_cells.f 2002 l f.f0 f.f1 f.f2 f.f3 f.f4 f.f5 f.f6 = some (cellsW l f) ∧ (cellsW l f = 0 → (f.f3 ≤ l.length ∧ l.length ≤ f.f4) ∧ inc (-1) l) := by
  have e : ∃ r, P.msg_cells.f 2002 l f.f0 f.f1 f.f2 f.f3 f.f4 f.f5 f.f6 = some r ∧ (r = 0 → (f.f3 ≤ l.length ∧ l.length ≤ f.f4) ∧ inc (-1) l) := by
    unfold P.msg_cells.f
    rw [many_f]
    simp only [Option.bind_some]
    by_cases h : (if (l.length : Int) < f.f3 then (13 : Int) else if (l.length : Int) > f.f4 then 6 else 0) = 0
    · rw [if_pos h]
      obtain ⟨r, h1, h2⟩ := cells_l0 l hl 2002 0 (-1) (Nat.zero_le _) (by omega)
      exact ⟨r, h1, fun h0 => ⟨manyW_zero h, by simpa using h2 h0⟩⟩
    · rw [if_neg h]
      exact ⟨_, rfl, fun h0 => absurd h0 h⟩
  obtain ⟨r, h1, h2⟩ := e
  unfold cellsW
  rw [h1]
  exact ⟨rfl, h2⟩
/-- A text. -/
def badC (c : Int) : Bool := decide (c < 32) || decide (126 < c)
def txtL : List Int → Int
  | [] => 0
  | c :: r => if badC c then 19 else txtL r
def textW (s : ByteArray) (f : P.S150) : Int := if manyW s.size f = 0 then txtL (bts s) else manyW s.size f
theorem textW_zero {s : ByteArray} {f : P.S150} (h : textW s f = 0) : f.f3 ≤ s.size ∧ (s.size : Int) ≤ f.f4 := by
  unfold textW at h
  split at h
  · exact manyW_zero (by assumption)
  · contradiction
/-- What is wrong with a field. -/
def wrongM (m : Ms) (f : P.S150) : Int :=
  if f.f1 = 3 then pathW m.path f else if f.f1 = 4 then cellsW m.cells f else if f.f1 = 5 then textW m.text f else if f.f1 = 6 then textW m.tag f else if getN m f.f2 < f.f3 ∨ getN m f.f2 > f.f4 then 5 else 0
def withoutM (m : Ms) (f : P.S150) : Ms :=
  if f.f1 = 3 then { m with path := [] } else if f.f1 = 4 then { m with cells := [] } else if f.f1 = 5 then { m with text := ⟨#[]⟩ } else if f.f1 = 6 then { m with tag := ⟨#[]⟩ } else setN m f.f2 0
/-- What every field is. -/
def okF (f : P.S150) : Prop := (f.f1 = 1 ∧ (0 ≤ f.f2 ∧ f.f2 < 6) ∧ 0 ≤ f.f3 ∧ f.f4 ≤ 1000000) ∨ (f.f1 = 2 ∧ (0 ≤ f.f2 ∧ f.f2 < 6) ∧ f.f3 = -1000000 ∧ f.f4 = 1000000) ∨ (f.f1 = 3 ∧ f.f4 = 16) ∨ (f.f1 = 4 ∧ f.f4 = 32) ∨ (f.f1 = 5 ∧ f.f4 = 64) ∨ (f.f1 = 6 ∧ f.f4 = 16)
instance (f : P.S150) : Decidable (okF f) := by unfold okF; infer_instance
theorem flds_kind (k : Int) : (k = 1 ∨ k = 2 ∨ k = 3 ∨ k = 4 ∨ k = 5) ∨ flds k = [] := by
  by_cases h1 : k = 1
  · exact .inl (.inl h1)
  by_cases h2 : k = 2
  · exact .inl (.inr (.inl h2))
  by_cases h3 : k = 3
  · exact .inl (.inr (.inr (.inl h3)))
  by_cases h4 : k = 4
  · exact .inl (.inr (.inr (.inr (.inl h4))))
  by_cases h5 : k = 5
  · exact .inl (.inr (.inr (.inr (.inr h5))))
  · right
    unfold flds P.field_Of.f
    rw [if_neg h1, if_neg h2, if_neg h3, if_neg h4, if_neg h5]
    rfl
theorem flds_ok (k : Int) : ∀ f ∈ flds k, okF f := by
  rcases flds_kind k with (rfl | rfl | rfl | rfl | rfl) | h
  · exact (by decide : ∀ f ∈ flds 1, okF f)
  · exact (by decide : ∀ f ∈ flds 2, okF f)
  · exact (by decide : ∀ f ∈ flds 3, okF f)
  · exact (by decide : ∀ f ∈ flds 4, okF f)
  · exact (by decide : ∀ f ∈ flds 5, okF f)
  · rw [h]; intro f hf; cases hf
/-- A field's bytes. -/
def prt (m : Ms) (f : P.S150) : List Int :=
  if f.f1 = 1 then put1 (getN m f.f2) else if f.f1 = 2 then put1 (zig (getN m f.f2)) else if f.f1 = 3 then put1 m.path.length ++ ptsB 0 0 m.path else if f.f1 = 4 then put1 m.cells.length ++ clsB (-1) m.cells
  else if f.f1 = 5 then put1 m.text.size ++ bts m.text else if f.f1 = 6 then put1 m.tag.size ++ bts m.tag else []
def fbd (f : P.S150) : Nat := if f.f1 = 1 then (if f.f4 < 128 then 1 else if f.f4 < 16384 then 2 else 3) else if f.f1 = 2 then 3 else if f.f1 = 3 then 129 else if f.f1 = 4 then 97 else if f.f1 = 5 then 65 else 17
theorem prt_len (m : Ms) (f : P.S150) (hp : m.path.length ≤ 1000) (hc : m.cells.length ≤ 1000) (hf : okF f) (h : wrongM m f = 0) : 1 ≤ (prt m f).length ∧ (prt m f).length ≤ fbd f := by
  unfold wrongM at h
  unfold prt fbd
  rcases hf with ⟨h1, h2, h3, h4⟩ | ⟨h1, h2, h3, h4⟩ | ⟨h1, h4⟩ | ⟨h1, h4⟩ | ⟨h1, h4⟩ | ⟨h1, h4⟩ <;> rw [h1] at h ⊢ <;> simp only [reduceIte, Int.reduceEq] at h ⊢
  · split at h
    · omega
    · rename_i h5
      split
      · exact (put1_some (getN m f.f2) 0 (by omega) (by omega) (by omega)).2
      · split
        · exact (put1_some (getN m f.f2) 1 (by omega) (by omega) (by omega)).2
        · exact (put1_some (getN m f.f2) 2 (by omega) (by omega) (by omega)).2
  · split at h
    · omega
    · rename_i h5
      have h6 : zig (getN m f.f2) < 128 ^ 3 ∧ 0 ≤ zig (getN m f.f2) := by
        by_cases h0 : 0 ≤ getN m f.f2
        · rw [zig_pos _ h0 (by omega)]; omega
        · rw [zig_neg _ (by omega) (by omega)]; omega
      exact (put1_some (zig (getN m f.f2)) 2 h6.2 h6.1 (by omega)).2
  · obtain ⟨⟨h5, h6⟩, h7⟩ := (pathW_some m.path f hp).2 h
    have e1 := (put1_some (m.path.length : Int) 0 (by omega) (by omega) (by omega)).2
    have e2 := ptsB_len m.path 0 0 (by omega) (by omega) h7
    rw [List.length_append]; omega
  · obtain ⟨⟨h5, h6⟩, h7⟩ := (cellsW_some m.cells f hc).2 h
    have e1 := (put1_some (m.cells.length : Int) 0 (by omega) (by omega) (by omega)).2
    have e2 := clsB_len m.cells (-1) (by omega) h7
    rw [List.length_append]; omega
  · have h5 := textW_zero h
    have e1 := (put1_some (m.text.size : Int) 0 (by omega) (by omega) (by omega)).2
    rw [List.length_append, bts_len]; omega
  · have h5 := textW_zero h
    have e1 := (put1_some (m.tag.size : Int) 0 (by omega) (by omega) (by omega)).2
    rw [List.length_append, bts_len]; omega
/-- A body. -/
def vfl (k v : Int) : List P.S150 := (flds k).filter fun f => decide (f.f5 ≤ v)
def encM (m : Ms) (v : Int) : List Int := (vfl m.k v).flatMap (prt m)
def fbs : List P.S150 → Nat
  | [] => 0
  | f :: r => fbd f + fbs r
theorem flat_len (m : Ms) (hp : m.path.length ≤ 1000) (hc : m.cells.length ≤ 1000) : ∀ l : List P.S150, (∀ f ∈ l, okF f) → (∀ f ∈ l, wrongM m f = 0) → (l.flatMap (prt m)).length ≤ fbs l ∧ l.length ≤ (l.flatMap (prt m)).length
  | [], _, _ => by simp [fbs]
  | f :: r, h1, h2 => by
    have h3 := prt_len m f hp hc (h1 f (by simp)) (h2 f (by simp))
    have h4 := flat_len m hp hc r (fun g hg => h1 g (by simp [hg])) (fun g hg => h2 g (by simp [hg]))
    simp only [List.flatMap_cons, List.length_append, fbs, List.length_cons]
    omega
theorem body_len (m : Ms) (v : Int) (hv : v = 1 ∨ v = 2) (hp : m.path.length ≤ 1000) (hc : m.cells.length ≤ 1000) (hk : flds m.k ≠ []) (h : ∀ f ∈ flds m.k, wrongM m f = 0) : 1 ≤ (encM m v).length ∧ (encM m v).length ≤ 192 := by
  have h1 := flat_len m hp hc (vfl m.k v) (fun f hf => flds_ok m.k f (List.mem_filter.1 hf).1) (fun f hf => h f (List.mem_filter.1 hf).1)
  have h2 : fbs (vfl m.k v) ≤ 192 ∧ 1 ≤ (vfl m.k v).length := by
    rcases flds_kind m.k with (e | e | e | e | e) | e
    · rw [e]; rcases hv with rfl | rfl <;> decide
    · rw [e]; rcases hv with rfl | rfl <;> decide
    · rw [e]; rcases hv with rfl | rfl <;> decide
    · rw [e]; rcases hv with rfl | rfl <;> decide
    · rw [e]; rcases hv with rfl | rfl <;> decide
    · exact absurd e hk
  unfold encM
  omega
end Go.Proofs.YtgdlpgakhhebeaaGreatDoor
end
section
set_option linter.unusedVariables false
set_option linter.unusedSimpArgs false
namespace Go.Proofs.YtgdlpgakhhebeaaGreatDoor
open Go.RowKit Go.Proofs.YtgdlpgakhhebeaaGreatDoorW.PrintWords Go.Proofs.YtgdlpgakhhebeaaGreatDoorW.PrintMore

instance : DecidableEq P.S217 := fun a b => if h : a.f0 = b.f0 ∧ a.f1 = b.f1 then isTrue (by cases a; cases b; simp_all) else isFalse (fun e => h (by rw [e]; exact ⟨rfl, rfl⟩))
theorem eqI_l0 (a b : List Int) (hab : a.length = b.length) (hl : a.length ≤ 1000) : ∀ (k i : Nat), i ≤ a.length → a.length - i < k → P.slices_Equal_int_int.l0 k a b (a.length : Int) (i : Int) = some (decide (a.drop i = b.drop i))
  | 0, i, _, h => by omega
  | k + 1, i, hi, hk => by
    by_cases hlt : i < a.length
    · have ih := eqI_l0 a b hab hl k (i + 1) hlt (by omega)
      have h1 : rd a (i : Int) = a[i] := by simp [rd, List.getD_eq_getElem?_getD, List.getElem?_eq_getElem hlt]
      have h2 : rd b (i : Int) = b[i] := by simp [rd, List.getD_eq_getElem?_getD, List.getElem?_eq_getElem (show i < b.length by omega)]
      have hw : wrap64 ((i : Int) + 1) = ((i + 1 : Nat) : Int) := by unfold wrap64; omega
      unfold P.slices_Equal_int_int.l0
      rw [if_pos (by omega), if_pos (by omega), if_pos (by omega), if_pos (by omega), h1, h2, hw, ih, List.drop_eq_getElem_cons hlt, List.drop_eq_getElem_cons (show i < b.length by omega)]
      by_cases hc : a[i] = b[i]
      · rw [if_pos hc]; simp only [List.cons.injEq, hc, true_and]
      · rw [if_neg hc]; simp only [List.cons.injEq, hc, false_and, decide_false]
    · obtain rfl : i = a.length := by omega
      unfold P.slices_Equal_int_int.l0
      rw [if_neg (by omega)]
      simp [hab]
theorem eqI (a b : List Int) (hl : a.length ≤ 1000) : P.slices_Equal_int_int.f 1002 a b = some (decide (a = b)) := by
  unfold P.slices_Equal_int_int.f
  by_cases h : (a.length : Int) = (b.length : Int)
  · rw [if_pos h]
    have := eqI_l0 a b (by omega) hl 1002 0 (Nat.zero_le _) (by omega)
    simpa using this
  · rw [if_neg h]
    have : a ≠ b := fun e => h (by rw [e])
    simp [this]
theorem eqP_l0 (a b : List P.S217) (hab : a.length = b.length) (hl : a.length ≤ 1000) : ∀ (k i : Nat), i ≤ a.length → a.length - i < k → P.msg_Point.l0 k a b (a.length : Int) (i : Int) = some (decide (a.drop i = b.drop i))
  | 0, i, _, h => by omega
  | k + 1, i, hi, hk => by
    by_cases hlt : i < a.length
    · have ih := eqP_l0 a b hab hl k (i + 1) hlt (by omega)
      have h1 : P.rd_T217 a (i : Int) = a[i] := by simp [P.rd_T217, List.getD_eq_getElem?_getD, List.getElem?_eq_getElem hlt]
      have h2 : P.rd_T217 b (i : Int) = b[i] := by simp [P.rd_T217, List.getD_eq_getElem?_getD, List.getElem?_eq_getElem (show i < b.length by omega)]
      have hw : wrap64 ((i : Int) + 1) = ((i + 1 : Nat) : Int) := by unfold wrap64; omega
      unfold P.msg_Point.l0
      rw [if_pos (by omega), if_pos (by omega), if_pos (by omega), if_pos (by omega), h1, h2, hw, ih, List.drop_eq_getElem_cons hlt, List.drop_eq_getElem_cons (show i < b.length by omega)]
      obtain ⟨x, hx⟩ : ∃ x, a[i] = x := ⟨_, rfl⟩
      obtain ⟨y, hy⟩ : ∃ y, b[i] = y := ⟨_, rfl⟩
      rw [hx, hy]
      obtain ⟨x0, x1⟩ := x
      obtain ⟨y0, y1⟩ := y
      by_cases hc : x0 = y0 ∧ x1 = y1
      · obtain ⟨rfl, rfl⟩ := hc
        simp only [List.cons.injEq, true_and, beq_self_eq_true, Bool.not_true, Bool.or_self, Bool.false_eq_true, if_false]
      · have hc' : (!(x0 == y0) || !(x1 == y1)) = true := by
          by_cases h0 : x0 = y0
          · have h1 : x1 ≠ y1 := fun e => hc ⟨h0, e⟩
            simp [h0, h1]
          · simp [h0]
        have hne : ¬ ((⟨x0, x1⟩ : P.S217) = ⟨y0, y1⟩) := fun e => hc (by injection e with e1 e2; exact ⟨e1, e2⟩)
        rw [if_pos hc']
        simp only [List.cons.injEq, hne, false_and, decide_false]
    · obtain rfl : i = a.length := by omega
      unfold P.msg_Point.l0
      rw [if_neg (by omega)]
      simp [hab]
theorem eqP (a b : List P.S217) (hl : a.length ≤ 1000) : P.msg_Point.f 1002 a b = some (decide (a = b)) := by
  unfold P.msg_Point.f
  by_cases h : (a.length : Int) = (b.length : Int)
  · rw [if_pos h]
    have := eqP_l0 a b (by omega) hl 1002 0 (Nat.zero_le _) (by omega)
    simpa using this
  · rw [if_neg h]
    have : a ≠ b := fun e => h (by rw [e])
    simp [this]
def numsM (a b : Ms) : Bool := decide (a.n0 = b.n0) && decide (a.n1 = b.n1) && decide (a.n2 = b.n2) && decide (a.n3 = b.n3) && decide (a.n4 = b.n4) && decide (a.n5 = b.n5)
def sameM (a b : Ms) : Bool := decide (a.k = b.k) && numsM a b && decide (a.path = b.path) && decide (a.cells = b.cells) && decide (a.text = b.text) && decide (a.tag = b.tag)
theorem sameM_iff (a b : Ms) : sameM a b = true ↔ a = b := by
  unfold sameM numsM
  cases a; cases b
  simp [and_assoc]
def chkL (m : Ms) : List P.S150 → Int → Ms → Int × Ms
  | [], e, left => (e, left)
  | f :: r, _, left => if wrongM m f = 0 then chkL m r 0 (withoutM left f) else (wrongM m f, left)
/-- What is wrong with a message. -/
def chk (m : Ms) : Int := if (chkL m (flds m.k) 9 m).1 = 0 ∧ sameM (chkL m (flds m.k) 9 m).2 { z69 with k := m.k } = false then 3 else (chkL m (flds m.k) 9 m).1
theorem chkL_zero (m : Ms) : ∀ (l : List P.S150) (e : Int) (left : Ms), (chkL m l e left).1 = 0 → (∀ f ∈ l, wrongM m f = 0) ∧ (l = [] → e = 0)
  | [], e, left, h => ⟨fun f hf => (by cases hf), fun _ => h⟩
  | f :: r, e, left, h => by
    unfold chkL at h
    split at h
    · rename_i h0
      have := chkL_zero m r 0 _ h
      refine ⟨fun g hg => ?_, fun h => (by cases h)⟩
      rcases List.mem_cons.1 hg with rfl | hg
      · exact h0
      · exact this.1 g hg
    · rename_i h0; exact absurd h h0
theorem chk_zero {m : Ms} (h : chk m = 0) : flds m.k ≠ [] ∧ (∀ f ∈ flds m.k, wrongM m f = 0) ∧ (chkL m (flds m.k) 9 m).2 = { z69 with k := m.k } := by
  unfold chk at h
  split at h
  · omega
  · rename_i h1
    have h2 := chkL_zero m (flds m.k) 9 m h
    refine ⟨fun e => by have := h2.2 e; omega, h2.1, ?_⟩
    rw [← sameM_iff]
    cases h3 : sameM (chkL m (flds m.k) 9 m).2 { z69 with k := m.k }
    · exact absurd ⟨h, h3⟩ h1
    · rfl
end Go.Proofs.YtgdlpgakhhebeaaGreatDoor
end
section
set_option linter.unusedVariables false
set_option linter.unusedSimpArgs false
namespace Go.Proofs.YtgdlpgakhhebeaaGreatDoor
open Go.RowKit Go.Proofs.YtgdlpgakhhebeaaGreatDoorW.PrintWords Go.Proofs.YtgdlpgakhhebeaaGreatDoorW.PrintMore
attribute [local go_sem] Oper.semAt_some
attribute [local go_sem] max2_int min2_int max_two min_two max_three min_three max_four min_four

theorem conv_bytes (s : ByteArray) (hs : s.size ≤ 1000000) (w : World) : ∃ c wb, (convert 9 25 (.string s)).run Tryz.prog w = .ok (.slice (some ⟨w.heap.size, 0, none⟩) s.size c) wb ∧ s.size ≤ c ∧ Kd.C (Kd.int .u8) wb (some ⟨w.heap.size, 0, none⟩) s.size (bts s) ∧ Below w.heap.size w wb := by
  refine ⟨_, _, Lib.run_convert_string_bytes (P := Tryz.prog) w 9 25 5 s (u := .string) (by kernel_rfl) (by kernel_rfl) (by kernel_rfl), ?_, ⟨bts_len s, by omega, fun h0 => ⟨_, rfl, fun j p hj => ⟨[.int .u8 p], rfl, rfl, fun i u hu => ?_⟩⟩⟩, ?_⟩
  · exact grownCap_ge w s.size 0 5
  · cases i with
    | succ i => simp at hu
    | zero =>
      simp at hu
      subst hu
      have hjl : j < s.size := by have := (List.getElem?_eq_some_iff.1 hj).1; rwa [bts_len] at this
      have := Lib.bytesWorld_cell w 5 s j hjl
      rw [Addr.add_lit, show 0 + (j * (Kd.int .u8).sz + 0) = j by simp [Kd.int, Kd.scalar]]
      rw [this]
      have hp : p = ((s.data.toList.getD j 0).toNat : Int) := by
        have hjl' : j < s.data.toList.length := by simpa using hjl
        rw [List.getD_eq_getElem?_getD, List.getElem?_eq_getElem hjl']
        simp only [bts, List.getElem?_map, List.getElem?_eq_getElem hjl', Option.map_some, Option.some.injEq] at hj
        exact hj.symm
      rw [hp]
  · refine ⟨rfl, rfl, rfl, ?_, fun k hk => Lib.bytesWorld_at_old w 5 s k hk⟩
    rw [Lib.bytesWorld_size]; omega
/-- A field's value. -/
def fV (f : P.S150) : Value := .agg #[.string f.f0, .int .i64 f.f1, .int .i64 f.f2, .int .i64 f.f3, .int .i64 f.f4, .int .i64 f.f5, .int .i64 f.f6]
def fC (f : P.S150) : Array Value := #[.string f.f0, .int .i64 f.f1, .int .i64 f.f2, .int .i64 f.f3, .int .i64 f.f4, .int .i64 f.f5, .int .i64 f.f6]
theorem txtL_at (l : List Int) (j : Nat) (h : j < l.length) : txtL (l.drop j) = if badC l[j] then 19 else txtL (l.drop (j + 1)) := by
  rw [List.drop_eq_getElem_cons h, txtL]
set_option maxRecDepth 100000 in
set_option maxHeartbeats 1000000 in
theorem text_call (s : ByteArray) (hs : s.size ≤ 1000000) (f : P.S150) (w : World) : Calls Tryz.prog 94 #[.string s, fV f] w fun e w' => e = .returned (.int .i64 (textW s f)) ∧ Below w.heap.size w w' := by
  have hm := P.msg_many.calls (s.size : Int) f.f0 f.f1 f.f2 f.f3 f.f4 f.f5 f.f6 (manyW (s.size : Int) f) (w.alloc (.cells (fC f) 150)) (many_f _ f)
  have bA : Below w.heap.size w (w.alloc (.cells (fC f) 150)) := (Below.refl _ w).alloc (Nat.le_refl _) _
  have HT : Hid (textW s f = if manyW (s.size : Int) f = 0 then txtL (bts s) else manyW (s.size : Int) f) := Lib.hid rfl
  generalize textW s f = R at *
  unfold fV
  unfold fC at hm bA
  generalize manyW (s.size : Int) f = M at *
  have HM := Lib.hid hm
  have HA := Lib.hid bA
  clear hm bA
  go_enter Tryz.func94, Tryz.ntmps94
  go_wp2_with (fail)
  refine HM.out.mono ?_
  rintro e w1 ⟨rfl, hb⟩
  have HB := Lib.hid (HA.out.trans (hb.mono HA.out.size))
  clear hb HM HA
  by_cases h0 : M = 0
  · subst h0
    rw [if_pos rfl] at HT
    obtain ⟨c, wb, hcv, hc, hC, hb⟩ := conv_bytes s hs w1
    have hbl := bts_len s
    have HC := Lib.hid (And.intro hC (And.intro (HB.out.trans (hb.mono HB.out.size)) hbl))
    clear hC hb hbl
    obtain ⟨n, hn⟩ : ∃ n, s.size = n := ⟨_, rfl⟩
    rw [hn] at hcv HC hs hc
    go_wp2_with (fail)
    go_loopw [7, 18] (fun _ i wr => ∃ (j : Nat), i = .int .i64 (j : Int) ∧ j ≤ n ∧ Hid (txtL (bts s) = txtL ((bts s).drop j) ∧ Below w.heap.size w wr ∧ Kd.C (Kd.int .u8) wr (some ⟨w1.heap.size, 0, none⟩) n (bts s)))
      (fun _ i _ => n - (intV i).toNat)
    case atStart => exact ⟨0, rfl, Nat.zero_le _, Lib.hid ⟨rfl, HC.out.2.1, HC.out.1⟩⟩
    case round =>
      obtain ⟨j, rfl, hj, HJ⟩ := hrel
      by_cases hlt : j < n
      · have hjl : j < (bts s).length := by have := HC.out.2.2; omega
        obtain ⟨ad, e', hcell⟩ := Kd.at_int HJ.out.2.2 (j : Int) (by omega) (by omega)
        cases e'
        rw [Int.toNat_natCast, Addr.add_lit, Nat.zero_add] at hcell
        have hrd : rd (bts s) (j : Int) = (bts s)[j] := by simp [rd, List.getD_eq_getElem?_getD, List.getElem?_eq_getElem hjl]
        have hat := txtL_at (bts s) j hjl
        rw [← hrd] at hat
        have HAT := Lib.hid hat
        generalize rd (bts s) (j : Int) = x at *
        clear hat hrd
        by_cases c1 : x < 32
        · have HV : Hid (R = 19) := Lib.hid (by rw [HT.out, HJ.out.1, HAT.out]; simp [badC, c1])
          go_wp2_with (fail)
          rw [← HV.out]
          exact bodyPost_ret (v := .int .i64 R) (by simp [results, Tryz.results94, go_sem]) rfl ⟨rfl, HJ.out.2.1⟩
        · by_cases c2 : 126 < x
          · have HV : Hid (R = 19) := Lib.hid (by rw [HT.out, HJ.out.1, HAT.out]; simp [badC, c2])
            go_wp2_with (fail)
            rw [← HV.out]
            exact bodyPost_ret (v := .int .i64 R) (by simp [results, Tryz.results94, go_sem]) rfl ⟨rfl, HJ.out.2.1⟩
          · go_wp2_with (fail)
            exact ⟨⟨j + 1, by simp, hlt, Lib.hid ⟨by rw [HJ.out.1, HAT.out]; simp [badC, c1, c2], HJ.out.2⟩⟩, by simp [intV]; omega⟩
      · obtain rfl : j = n := by omega
        have HV : Hid (R = 0) := Lib.hid (by rw [HT.out, HJ.out.1, List.drop_eq_nil_of_le (by have := HC.out.2.2; omega)]; rfl)
        go_wp2_with (fail)
        rw [← HV.out]
        exact bodyPost_ret (v := .int .i64 R) (by simp [results, Tryz.results94, go_sem]) rfl ⟨rfl, HJ.out.2.1⟩
  · rw [if_neg h0] at HT
    have HV := HT
    have hne : (M != 0) = true := by simpa using h0
    go_wp2_with (fail)
    rw [HV.out]
    exact bodyPost_ret (v := .int .i64 M) (by simp [results, Tryz.results94, go_sem]) rfl ⟨rfl, HB.out⟩
end Go.Proofs.YtgdlpgakhhebeaaGreatDoor
end
section
set_option linter.unusedVariables false
set_option linter.unusedSimpArgs false
namespace Go.Proofs.YtgdlpgakhhebeaaGreatDoor
open Go.RowKit Go.Proofs.YtgdlpgakhhebeaaGreatDoorW.PrintWords Go.Proofs.YtgdlpgakhhebeaaGreatDoorW.PrintMore
attribute [local go_sem] Oper.semAt_some
attribute [local go_sem] max2_int min2_int max_two min_two max_three min_three max_four min_four

/-- A message that is not too great. -/
structure Fit (m : Ms) : Prop where
  path : m.path.length ≤ 1000
  cells : m.cells.length ≤ 1000
  text : m.text.size ≤ 1000000
  tag : m.tag.size ≤ 1000000
def mV (m : Ms) (Ap : Option Addr) (cp : Nat) (Ac : Option Addr) (cc : Nat) : Value := .agg (m.cs Ap cp Ac cc)
set_option maxRecDepth 100000 in
set_option maxHeartbeats 1000000 in
theorem mwrong_call (m : Ms) (f : P.S150) (hf : okF f) (w : World) (Ap : Option Addr) (cp : Nat) (Ac : Option Addr) (cc : Nat) (h : MsR w m Ap cp Ac cc) (hm : Fit m) :
    Calls Tryz.prog 55 #[mV m Ap cp Ac cc, fV f] w fun e w' => e = .returned (.int .i64 (wrongM m f)) ∧ Below w.heap.size w w' := by
  obtain ⟨W, hW⟩ : ∃ W, W = (w.alloc (.cells (m.cs Ap cp Ac cc) 69)).alloc (.cells (fC f) 150) := ⟨_, rfl⟩
  have bW : Below w.heap.size w W := by rw [hW]; exact ((Below.refl _ w).alloc (Nat.le_refl _) _).alloc (by simp) _
  have hp := P.msg_path.calls 1002 Ap cp m.path f.f0 f.f1 f.f2 f.f3 f.f4 f.f5 f.f6 (pathW m.path f) W (Kd.C_below h.path bW) h.lp (pathW_some m.path f hm.path).1
  have hc := P.msg_cells.calls 2002 Ac cc m.cells f.f0 f.f1 f.f2 f.f3 f.f4 f.f5 f.f6 (cellsW m.cells f) W (Kd.C_below h.cells bW) h.lc (cellsW_some m.cells f hm.cells).1
  have ht := text_call m.text hm.text f W
  have hg := text_call m.tag hm.tag f W
  have HX : Hid (wrongM m f = _) := Lib.hid (by unfold wrongM; rfl)
  have HF := Lib.hid hf
  have HB := Lib.hid bW
  have HC := Lib.hid (And.intro hp (And.intro hc (And.intro ht hg)))
  generalize hR : wrongM m f = R at *
  clear hR hp hc ht hg bW h hm
  unfold mV Ms.cs fV
  unfold Ms.cs fC at hW
  generalize pathW m.path f = x1 at *
  generalize cellsW m.cells f = x2 at *
  generalize textW m.text f = x3 at *
  generalize textW m.tag f = x4 at *
  by_cases c3 : f.f1 = 3
  · rw [if_pos c3] at HX
    rw [HX.out]
    have HK := Lib.hid HC.out.1
    obtain ⟨f0, f1, f2, f3, f4, f5, f6⟩ := f
    obtain ⟨k, n0, n1, n2, n3, n4, n5, path, cells, text, tag⟩ := m
    simp only at *
    subst c3
    generalize path.length = lp at *
    generalize cells.length = lc at *
    subst hW
    go_enter Tryz.func55, Tryz.ntmps55
    go_wp2_with (fail)
    refine HK.out.mono ?_
    rintro e w1 ⟨rfl, hb⟩
    have HD := Lib.hid (HB.out.trans (hb.mono HB.out.size))
    clear hb HC
    go_wp2_with (fail)
    exact bodyPost_ret (v := .int .i64 x1) (by simp [results, Tryz.results55, go_sem]) rfl ⟨rfl, HD.out⟩
  rw [if_neg c3] at HX
  by_cases c4 : f.f1 = 4
  · rw [if_pos c4] at HX
    rw [HX.out]
    have HK := Lib.hid HC.out.2.1
    obtain ⟨f0, f1, f2, f3, f4, f5, f6⟩ := f
    obtain ⟨k, n0, n1, n2, n3, n4, n5, path, cells, text, tag⟩ := m
    simp only at *
    subst c4
    generalize path.length = lp at *
    generalize cells.length = lc at *
    subst hW
    go_enter Tryz.func55, Tryz.ntmps55
    go_wp2_with (fail)
    refine HK.out.mono ?_
    rintro e w1 ⟨rfl, hb⟩
    have HD := Lib.hid (HB.out.trans (hb.mono HB.out.size))
    clear hb HC
    go_wp2_with (fail)
    exact bodyPost_ret (v := .int .i64 x2) (by simp [results, Tryz.results55, go_sem]) rfl ⟨rfl, HD.out⟩
  rw [if_neg c4] at HX
  by_cases c5 : f.f1 = 5
  · rw [if_pos c5] at HX
    rw [HX.out]
    have HK := Lib.hid HC.out.2.2.1
    obtain ⟨f0, f1, f2, f3, f4, f5, f6⟩ := f
    obtain ⟨k, n0, n1, n2, n3, n4, n5, path, cells, text, tag⟩ := m
    simp only at *
    subst c5
    generalize path.length = lp at *
    generalize cells.length = lc at *
    subst hW
    go_enter Tryz.func55, Tryz.ntmps55
    go_wp2_with (fail)
    refine HK.out.mono ?_
    rintro e w1 ⟨rfl, hb⟩
    have HD := Lib.hid (HB.out.trans (hb.mono HB.out.size))
    clear hb HC
    go_wp2_with (fail)
    exact bodyPost_ret (v := .int .i64 x3) (by simp [results, Tryz.results55, go_sem]) rfl ⟨rfl, HD.out⟩
  rw [if_neg c5] at HX
  by_cases c6 : f.f1 = 6
  · rw [if_pos c6] at HX
    rw [HX.out]
    have HK := Lib.hid HC.out.2.2.2
    obtain ⟨f0, f1, f2, f3, f4, f5, f6⟩ := f
    obtain ⟨k, n0, n1, n2, n3, n4, n5, path, cells, text, tag⟩ := m
    simp only at *
    subst c6
    generalize path.length = lp at *
    generalize cells.length = lc at *
    subst hW
    go_enter Tryz.func55, Tryz.ntmps55
    go_wp2_with (fail)
    refine HK.out.mono ?_
    rintro e w1 ⟨rfl, hb⟩
    have HD := Lib.hid (HB.out.trans (hb.mono HB.out.size))
    clear hb HC
    go_wp2_with (fail)
    exact bodyPost_ret (v := .int .i64 x4) (by simp [results, Tryz.results55, go_sem]) rfl ⟨rfl, HD.out⟩
  rw [if_neg c6] at HX
  have hN : 0 ≤ f.f2 ∧ f.f2 < 6 := by
    have hf := HF.out
    unfold okF at hf
    rcases hf with h | h | h | h | h | h
    · exact h.2.1
    · exact h.2.1
    · exact absurd h.1 c3
    · exact absurd h.1 c4
    · exact absurd h.1 c5
    · exact absurd h.1 c6
  obtain ⟨f0, f1, f2, f3, f4, f5, f6⟩ := f
  obtain ⟨k, n0, n1, n2, n3, n4, n5, path, cells, text, tag⟩ := m
  simp only at *
  generalize path.length = lp at *
  generalize cells.length = lc at *
  subst hW
  clear HC
  have hN2 : f2 = 0 ∨ f2 = 1 ∨ f2 = 2 ∨ f2 = 3 ∨ f2 = 4 ∨ f2 = 5 := by omega
  clear hN HF
  rcases hN2 with rfl | rfl | rfl | rfl | rfl | rfl
  · have HX : Hid (R = if n0 < f3 ∨ n0 > f4 then 5 else 0) := Lib.hid HX.out
    by_cases d1 : n0 < f3
    · rw [if_pos (.inl d1)] at HX
      rw [HX.out]
      go_enter Tryz.func55, Tryz.ntmps55
      go_wp2_with (fail)
      exact bodyPost_ret (v := .int .i64 5) (by simp [results, Tryz.results55, go_sem]) rfl ⟨rfl, HB.out⟩
    · by_cases d2 : f4 < n0
      · rw [if_pos (.inr d2)] at HX
        rw [HX.out]
        go_enter Tryz.func55, Tryz.ntmps55
        go_wp2_with (fail)
        exact bodyPost_ret (v := .int .i64 5) (by simp [results, Tryz.results55, go_sem]) rfl ⟨rfl, HB.out⟩
      · rw [if_neg (fun h => h.elim d1 d2)] at HX
        rw [HX.out]
        go_enter Tryz.func55, Tryz.ntmps55
        go_wp2_with (fail)
        exact bodyPost_ret (v := .int .i64 0) (by simp [results, Tryz.results55, go_sem]) rfl ⟨rfl, HB.out⟩
  · have HX : Hid (R = if n1 < f3 ∨ n1 > f4 then 5 else 0) := Lib.hid HX.out
    by_cases d1 : n1 < f3
    · rw [if_pos (.inl d1)] at HX
      rw [HX.out]
      go_enter Tryz.func55, Tryz.ntmps55
      go_wp2_with (fail)
      exact bodyPost_ret (v := .int .i64 5) (by simp [results, Tryz.results55, go_sem]) rfl ⟨rfl, HB.out⟩
    · by_cases d2 : f4 < n1
      · rw [if_pos (.inr d2)] at HX
        rw [HX.out]
        go_enter Tryz.func55, Tryz.ntmps55
        go_wp2_with (fail)
        exact bodyPost_ret (v := .int .i64 5) (by simp [results, Tryz.results55, go_sem]) rfl ⟨rfl, HB.out⟩
      · rw [if_neg (fun h => h.elim d1 d2)] at HX
        rw [HX.out]
        go_enter Tryz.func55, Tryz.ntmps55
        go_wp2_with (fail)
        exact bodyPost_ret (v := .int .i64 0) (by simp [results, Tryz.results55, go_sem]) rfl ⟨rfl, HB.out⟩
  · have HX : Hid (R = if n2 < f3 ∨ n2 > f4 then 5 else 0) := Lib.hid HX.out
    by_cases d1 : n2 < f3
    · rw [if_pos (.inl d1)] at HX
      rw [HX.out]
      go_enter Tryz.func55, Tryz.ntmps55
      go_wp2_with (fail)
      exact bodyPost_ret (v := .int .i64 5) (by simp [results, Tryz.results55, go_sem]) rfl ⟨rfl, HB.out⟩
    · by_cases d2 : f4 < n2
      · rw [if_pos (.inr d2)] at HX
        rw [HX.out]
        go_enter Tryz.func55, Tryz.ntmps55
        go_wp2_with (fail)
        exact bodyPost_ret (v := .int .i64 5) (by simp [results, Tryz.results55, go_sem]) rfl ⟨rfl, HB.out⟩
      · rw [if_neg (fun h => h.elim d1 d2)] at HX
        rw [HX.out]
        go_enter Tryz.func55, Tryz.ntmps55
        go_wp2_with (fail)
        exact bodyPost_ret (v := .int .i64 0) (by simp [results, Tryz.results55, go_sem]) rfl ⟨rfl, HB.out⟩
  · have HX : Hid (R = if n3 < f3 ∨ n3 > f4 then 5 else 0) := Lib.hid HX.out
    by_cases d1 : n3 < f3
    · rw [if_pos (.inl d1)] at HX
      rw [HX.out]
      go_enter Tryz.func55, Tryz.ntmps55
      go_wp2_with (fail)
      exact bodyPost_ret (v := .int .i64 5) (by simp [results, Tryz.results55, go_sem]) rfl ⟨rfl, HB.out⟩
    · by_cases d2 : f4 < n3
      · rw [if_pos (.inr d2)] at HX
        rw [HX.out]
        go_enter Tryz.func55, Tryz.ntmps55
        go_wp2_with (fail)
        exact bodyPost_ret (v := .int .i64 5) (by simp [results, Tryz.results55, go_sem]) rfl ⟨rfl, HB.out⟩
      · rw [if_neg (fun h => h.elim d1 d2)] at HX
        rw [HX.out]
        go_enter Tryz.func55, Tryz.ntmps55
        go_wp2_with (fail)
        exact bodyPost_ret (v := .int .i64 0) (by simp [results, Tryz.results55, go_sem]) rfl ⟨rfl, HB.out⟩
  · have HX : Hid (R = if n4 < f3 ∨ n4 > f4 then 5 else 0) := Lib.hid HX.out
    by_cases d1 : n4 < f3
    · rw [if_pos (.inl d1)] at HX
      rw [HX.out]
      go_enter Tryz.func55, Tryz.ntmps55
      go_wp2_with (fail)
      exact bodyPost_ret (v := .int .i64 5) (by simp [results, Tryz.results55, go_sem]) rfl ⟨rfl, HB.out⟩
    · by_cases d2 : f4 < n4
      · rw [if_pos (.inr d2)] at HX
        rw [HX.out]
        go_enter Tryz.func55, Tryz.ntmps55
        go_wp2_with (fail)
        exact bodyPost_ret (v := .int .i64 5) (by simp [results, Tryz.results55, go_sem]) rfl ⟨rfl, HB.out⟩
      · rw [if_neg (fun h => h.elim d1 d2)] at HX
        rw [HX.out]
        go_enter Tryz.func55, Tryz.ntmps55
        go_wp2_with (fail)
        exact bodyPost_ret (v := .int .i64 0) (by simp [results, Tryz.results55, go_sem]) rfl ⟨rfl, HB.out⟩
  · have HX : Hid (R = if n5 < f3 ∨ n5 > f4 then 5 else 0) := Lib.hid HX.out
    by_cases d1 : n5 < f3
    · rw [if_pos (.inl d1)] at HX
      rw [HX.out]
      go_enter Tryz.func55, Tryz.ntmps55
      go_wp2_with (fail)
      exact bodyPost_ret (v := .int .i64 5) (by simp [results, Tryz.results55, go_sem]) rfl ⟨rfl, HB.out⟩
    · by_cases d2 : f4 < n5
      · rw [if_pos (.inr d2)] at HX
        rw [HX.out]
        go_enter Tryz.func55, Tryz.ntmps55
        go_wp2_with (fail)
        exact bodyPost_ret (v := .int .i64 5) (by simp [results, Tryz.results55, go_sem]) rfl ⟨rfl, HB.out⟩
      · rw [if_neg (fun h => h.elim d1 d2)] at HX
        rw [HX.out]
        go_enter Tryz.func55, Tryz.ntmps55
        go_wp2_with (fail)
        exact bodyPost_ret (v := .int .i64 0) (by simp [results, Tryz.results55, go_sem]) rfl ⟨rfl, HB.out⟩
end Go.Proofs.YtgdlpgakhhebeaaGreatDoor
end
