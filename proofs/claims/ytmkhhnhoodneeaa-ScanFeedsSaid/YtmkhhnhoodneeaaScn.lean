/- scan: a scanner's cells; take, Reset, Held, Fed, Open. -/
import Derived.Test.YtmkhhnhoodneeaaPlain2
import Derived.Test.YtmkhhnhoodneeaaProg
import Derived.Outline
import Derived.Lib.Hide
import Derived.WalkMore
import Derived.LoopTactic
set_option linter.unusedVariables false
set_option linter.unusedSimpArgs false
namespace Go.Proofs.Ytmkhhnhoodneeaa
open Go.RowKit Go.Proofs.YtmkhhnhoodneeaaW.PrintWords Go.Proofs.YtmkhhnhoodneeaaW.PrintMore
attribute [local go_sem] Oper.semAt_some

theorem rd_get {l : List Int} {k : Nat} (h : k < l.length) : rd l (k : Int) = l[k] := by simp [rd, List.getD_eq_getElem?_getD, List.getElem?_eq_getElem h]
theorem infoB : (Try.prog.info? 5).map (fun i => (i.zero, i.size, i.bytes)) = some (some (.int .u8 0), 1, 1) := by kernel_rfl
/-- A scanner's block: what is held, how many there are, how many were fed. -/
def Scn (W : World) (g : Nat) (vh : Value) (n fed : Int) : Prop := W.heap[g]? = some (.cells #[vh, .int .i64 n, .int .u64 fed] 51 (0, 0))
theorem Scn.c0 {W : World} {g : Nat} {vh : Value} {n fed : Int} (h : Scn W g vh n fed) : W.cell? ⟨g, 0, none⟩ = some vh := by
  have h' : W.heap[g]? = _ := h
  simp [World.cell?, h']
theorem Scn.c1 {W : World} {g : Nat} {vh : Value} {n fed : Int} (h : Scn W g vh n fed) : W.cell? ⟨g, 1, none⟩ = some (.int .i64 n) := by
  have h' : W.heap[g]? = _ := h
  simp [World.cell?, h']
theorem Scn.c2 {W : World} {g : Nat} {vh : Value} {n fed : Int} (h : Scn W g vh n fed) : W.cell? ⟨g, 2, none⟩ = some (.int .u64 fed) := by
  have h' : W.heap[g]? = _ := h
  simp [World.cell?, h']
theorem Scn.fz {W : World} {g : Nat} {vh : Value} {n fed : Int} (h : Scn W g vh n fed) (o : Nat) : W.frozen? ⟨g, o, none⟩ = false := by
  have h' : W.heap[g]? = _ := h
  simp [World.frozen?, h']
theorem Scn.lt {W : World} {g : Nat} {vh : Value} {n fed : Int} (h : Scn W g vh n fed) : g < W.heap.size := (Array.getElem?_eq_some_iff.1 h).1
theorem Scn.s0 {W : World} {g : Nat} {vh : Value} {n fed : Int} (h : Scn W g vh n fed) (v : Value) : Scn (W.setCell ⟨g, 0, none⟩ v) g v n fed := by
  have h' : W.heap[g]? = _ := h
  simp [Scn, World.setCell, Array.getElem?_modify, h']
theorem Scn.s1 {W : World} {g : Nat} {vh : Value} {n fed : Int} (h : Scn W g vh n fed) (m : Int) : Scn (W.setCell ⟨g, 1, none⟩ (.int .i64 m)) g vh m fed := by
  have h' : W.heap[g]? = _ := h
  simp [Scn, World.setCell, Array.getElem?_modify, h']
theorem Scn.s2 {W : World} {g : Nat} {vh : Value} {n fed : Int} (h : Scn W g vh n fed) (m : Int) : Scn (W.setCell ⟨g, 2, none⟩ (.int .u64 m)) g vh n m := by
  have h' : W.heap[g]? = _ := h
  simp [Scn, World.setCell, Array.getElem?_modify, h']

/-- What a step of a scanner at g, which holds vh, leaves: all blocks but its own two. -/
def Own (g : Nat) (vh : Value) : Nat → Prop := fun b => b = g ∨ vh.ownBlock = some b
theorem Stab.setT {T : Nat → Prop} {n : Nat} (W : World) {p : Addr} (hT : T p.block) (v : Value) : Stab T n W (W.setCell p v) :=
  ⟨rfl, rfl, rfl, (KeepsWalks.setCell W p v).size, fun k o hk hn _ => (Below.heap_setCell W p v k (fun e => hn (by rw [e]; exact hT))).trans hk⟩
theorem Stab.grownT {T : Nat → Prop} {n : Nat} {W W' : World} {row : Option Nat} (h : W.grownBy W' row) (hT : ∀ k, row = some k → T k) : Stab T n W W' :=
  ⟨h.os, h.tape, h.output, h.size, fun k o hk hn _ => (h.block k (Array.getElem?_eq_some_iff.1 hk).1 (fun e => hn (hT k e.symm))).trans hk⟩

/-- What is held behind one more byte. -/
def tk (xs : List Int) (n : Nat) (c : Int) : List Int := if 255 < n + 1 then [] else xs ++ [c]
set_option maxRecDepth 100000 in
set_option maxHeartbeats 2000000 in
theorem take_call (w : World) (g base : Nat) (vh : Value) (xs : List Int) (n : Nat) (fed c : Int) (hg : Scn w g vh n fed) (hR : (Kd.int .u8).R 5 w base (fun k => k ≠ g) vh xs) (hb : base ≤ w.heap.size) (hn : n ≤ 1000000) (hx : xs.length ≤ 255) :
    Calls Try.prog 21 #[.pointer (some ⟨g, 0, none⟩), .int .u8 c] w fun e w' => (∃ v, e = .returned v) ∧ ∃ vh', Scn w' g vh' ((n + 1 : Nat) : Int) fed ∧ (Kd.int .u8).R 5 w' base (fun k => k ≠ g) vh' (tk xs n c) ∧ Stab (Own g vh) w.heap.size w w' ∧ (∀ b, Own g vh' b → Own g vh b ∨ w.heap.size ≤ b) := by
  have c0 := hg.c0
  have c1 := hg.c1
  have f1 := hg.fz 1
  have e1 : wrap64 ((n : Int) + 1) = (n : Int) + 1 := by unfold wrap64; omega
  have h1 := hg.s1 ((n : Int) + 1)
  obtain ⟨w1, hw1⟩ : ∃ w1, w.setCell ⟨g, 1, none⟩ (.int .i64 ((n : Int) + 1)) = w1 := ⟨_, rfl⟩
  rw [hw1] at h1
  have d0 := h1.c0
  have d1 := h1.c1
  have df := h1.fz 0
  have s1 : Stab (Own g vh) w.heap.size w w1 := by rw [← hw1]; exact Stab.setT _ (.inl rfl) _
  have R1 : (Kd.int .u8).R 5 w1 base (fun k => k ≠ g) vh xs := by rw [← hw1]; exact Kd.R_far (p := ⟨g, 1, none⟩) hR (fun k hk => hk) _
  have hbw1 : base ≤ w1.heap.size := Nat.le_trans hb s1.size
  have hng : ∀ k, vh.ownBlock = some k → k ≠ g := R1.1
  have hgl := h1.lt
  by_cases h255 : 255 < n + 1
  · have t1 : (255 < (n : Int) + 1) = True := eq_true (by omega)
    have h2 := h1.s0 (.slice none 0 0)
    have s2 : Stab (Own g vh) w.heap.size w (w1.setCell ⟨g, 0, none⟩ (.slice none 0 0)) := s1.trans (Stab.setT (T := Own g vh) (p := ⟨g, 0, none⟩) w1 (.inl rfl) _) (fun b hb => .inl hb)
    have HF := Lib.hid (And.intro h2 s2)
    clear h1 s1 R1 hbw1 hng hgl hR hg h2 s2
    go_enter Try.func21, Try.ntmps21
    go_wp2_with (fail)
    refine bodyPost_ret (results_none rfl _ _ _) rfl ⟨⟨_, rfl⟩, .slice none 0 0, HF.out.1, by rw [show tk xs n c = [] from if_pos h255]; exact Kd.R_nil _ _ _ _ _, HF.out.2, fun b hb => ?_⟩
    rcases hb with hb | hb
    · exact .inl (.inl hb)
    · simp [Value.ownBlock] at hb
  · have t1 : (255 < (n : Int) + 1) = False := eq_false (by omega)
    obtain ⟨v2, w2, hrun, R2, g2, at2⟩ := run_app_one (P := Try.prog) (t := 22) (e := 5) (ty := 22) (p := c) (cs := [.int .u8 c]) (okp := fun _ => False) (Kd.int .u8) Try.underlying22 infoB rfl (by decide) (by decide) R1 rfl (fun _ h => h.elim) (fun k hk e => by omega) hbw1 (by omega)
    obtain ⟨A2, cp2, ev2⟩ := Kd.R_slice R2
    rw [List.length_append, List.length_singleton] at ev2
    subst ev2
    have h2 : Scn w2 g vh ((n : Int) + 1) fed := (g2.block g hgl (fun e => hng g e.symm rfl)).trans h1
    have h3 := h2.s0 (.slice A2 (xs.length + 1) cp2)
    have f2 := h2.fz 0
    have c2 := h2.c0
    have hng2 : ∀ k, (Value.slice A2 (xs.length + 1) cp2).ownBlock = some k → k ≠ g := R2.1
    have R3 : (Kd.int .u8).R 5 (w2.setCell ⟨g, 0, none⟩ (.slice A2 (xs.length + 1) cp2)) base (fun k => k ≠ g) (.slice A2 (xs.length + 1) cp2) (xs ++ [c]) := Kd.R_far (p := ⟨g, 0, none⟩) R2 (fun k hk => hk) _
    have s2 : Stab (Own g vh) w.heap.size w (w2.setCell ⟨g, 0, none⟩ (.slice A2 (xs.length + 1) cp2)) := (s1.trans (Stab.grownT (T := Own g vh) g2 (fun k e => .inr e)) (fun b hb => .inl hb)).trans (Stab.setT (T := Own g vh) (p := ⟨g, 0, none⟩) w2 (.inl rfl) _) (fun b hb => .inl hb)
    have ho : ∀ b, Own g (.slice A2 (xs.length + 1) cp2) b → Own g vh b ∨ w.heap.size ≤ b := fun b hb => by
      rcases hb with hb | hb
      · exact .inl (.inl hb)
      · rcases at2 with h | ⟨b', h, hle⟩
        · exact .inl (.inr (h ▸ hb))
        · rw [h] at hb; cases hb; exact .inr (Nat.le_trans s1.size hle)
    have HF := Lib.hid (And.intro h3 (And.intro R3 (And.intro s2 ho)))
    clear h1 s1 R1 hbw1 hng hgl hR hg h2 h3 R2 R3 s2 ho g2 at2 hng2
    go_enter Try.func21, Try.ntmps21
    go_wp2_with (at_builtin; refine run_app (.tmp 23) (.tmp 25) 22 rfl rfl hrun ?_)
    refine bodyPost_end (results_none rfl _ _ _) rfl ⟨⟨_, rfl⟩, _, HF.out.1, by rw [show tk xs n c = xs ++ [c] from if_neg h255]; exact HF.out.2.1, HF.out.2.2.1, HF.out.2.2.2⟩
end Go.Proofs.Ytmkhhnhoodneeaa
