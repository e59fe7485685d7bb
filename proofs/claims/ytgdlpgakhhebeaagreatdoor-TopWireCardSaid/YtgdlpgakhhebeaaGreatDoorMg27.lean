/- Part 27 of the proof of TopWire: Evd. -/
import Derived.Laws.Tables
import Derived.Test.YtgdlpgakhhebeaaGreatDoorMg26
set_option linter.unusedVariables false
namespace Go.Proofs.YtgdlpgakhhebeaaGreatDoor.Ev
open Go
noncomputable section

/-- The bind of options, of no universe of its own. -/
def _root_.Option.ob {α β : Type} (x : Option α) (f : α → Option β) : Option β := @Option.rec α (fun _ => Option β) none f x
@[simp] theorem _root_.Option.ob_eq {α β : Type} (x : Option α) (f : α → Option β) : x.ob f = x.bind f := by cases x <;> rfl
abbrev VRes := Option (Value × ASt)
def ret (H : ASt) (r : Option Value) : VRes := r.ob fun v => some (v, H)

/-- The value of an operand; none for the address of a package's variable. -/
def getS (S : T Value) (t : Nat) : Value := match S.get t with | some v => v | none => undef
def constV (v : Value) : Option Value := T.bi (bare 9 v) (some v) none
def opval (S : T Value) (x : Operand) : Option Value := Operand.casesOn (motive := fun _ => Option Value) x (fun t => some (getS S t)) constV (fun _ => none) (fun f => some (.func (.func f) #[] #[]))
def opvals (S : T Value) : List Operand → Option (List Value)
  | [] => some []
  | x :: r => (opval S x).ob fun v => (opvals S r).ob fun l => some (v :: l)
def opt (S : T Value) : Option Operand → Option (Option Value)
  | none => some none
  | some x => (opval S x).ob fun v => some (some v)
def opparts (S : T Value) : List (Nat × Operand) → Option (List (Nat × Value))
  | [] => some []
  | (i, x) :: r => (opval S x).ob fun v => (opparts S r).ob fun l => some ((i, v) :: l)
/-- The operands as the model takes them. -/
def evalS (S : T Value) : Operand → Value
  | .tmp t => getS S t
  | .const v => v
  | .global g => .pointer (some ⟨g, 0, none⟩)
  | .func f => .func (.func f) #[] #[]
def ptrOf : Value → Option (Nat × Nat)
  | .pointer (some ⟨b, o, none⟩) => some (b, o)
  | _ => none
def natOf : Value → Option Nat
  | .int _ (.ofNat n) => some n
  | _ => none
/-- How many cells an element of an array has (0: the type is no array). -/
def strideOf (P : Program) (t : TypeId) : Nat := match P.underlying t with
  | some (.array _ e) => (match P.info? e with | some i => i.size | none => 0)
  | _ => 0
/-- What is no matter of memory: the model's own run. -/
def bareRes (H : ASt) : Option Next → VRes
  | some (.value v) => bif bare 9 v then some (v, H) else none
  | _ => none
def apure (P : Program) (S : T Value) (H : ASt) (o : Oper) : VRes :=
  (opvals S o.op.operands.toList).ob fun vs => bif vs.all (bare 9) then bareRes H (pureRun P (execOp (evalS S) o)) else none
/-- A run that gives a value of no memory. -/
def bareVal (s : Option Value) : Option Value := s.ob constV

/-- Cells put among others. -/
def putL (l : List Value) (off : Nat) (xs : List Value) : List Value := l.take off ++ (xs ++ l.drop (Nat.add off xs.length))
def fillL (place : Nat → Option (Nat × Nat)) : List (Nat × Value) → List Value → Option (List Value)
  | [], cells => some cells
  | p :: r, cells => (place p.1).ob fun q => bif Nat.beq p.2.cells.toList.length q.2 && Nat.ble (Nat.add q.1 q.2) cells.length then fillL place r (putL cells q.1 p.2.cells.toList) else none
def placesOf (P : Program) (fs : Array Field) : Option (List (Nat × Nat)) := fs.toList.mapM (fun f => (P.info? f.type).map fun i => (f.offset, i.size))
/-- The cells of a type's zero value, if no block stands in it. -/
def zeroL (P : Program) (t : TypeId) : Option (List Value) := (P.info? t).ob fun i => i.zero.ob fun z => bif bare 9 z then some z.cells.toList else none
def zeroV (P : Program) (t : TypeId) : Option Value := (P.info? t).ob fun i => i.zero.ob constV
def sizeP (P : Program) (t : TypeId) : Option Nat := (P.info? t).ob fun i => some i.size
def aggV (l : List Value) : Value := .agg l.toArray
def abuildAt (P : Program) (parts : List (Nat × Value)) (z : List Value) : Option TypeDesc → Option Value
  | some (.struct fs) => (placesOf P fs).ob fun pl => (fillL (fun i => pl[i]?) parts z).ob fun l => some (aggV l)
  | some (.array _ e) => (sizeP P e).ob fun k => (fillL (fun j => some (j * k, k)) parts z).ob fun l => some (aggV l)
  | _ => none
def abuild (P : Program) (t : TypeId) (parts : List (Nat × Value)) : Option Value :=
  (zeroL P t).ob fun z => abuildAt P parts z (P.underlying t)
def sliceElem (P : Program) (t : TypeId) : Option TypeId := match P.underlying t with
  | some (.slice e) => some e
  | _ => none
/-- The cells of so many zero values. -/
def zerosL (z : List Value) : Nat → List Value
  | 0 => []
  | n + 1 => z ++ zerosL z n
/-- A new row and the slice upon it. -/
def newRowL (H : ASt) (l : List Value) (n c elem st : Nat) : VRes := (aadd H l elem H.next st).ob fun H' => some (.slice (some ⟨H.next, 0, none⟩) n c, H')
def abuildSlice0 (H : ASt) (e size : Nat) : List (Nat × Value) → VRes
  | [] => newRowL H [] 0 0 e size
  | _ => none
def abuildSlice (P : Program) (t : TypeId) (len : Nat) (parts : List (Nat × Value)) (H : ASt) : VRes :=
  (sliceElem P t).ob fun e => (sizeP P e).ob fun k => bif Nat.beq len 0 then abuildSlice0 H e k parts else
    (zeroL P e).ob fun z => bif Nat.beq z.length k && (Nat.ble (Nat.mul len k) 16777216 && Nat.blt 0 (Nat.mul len k)) then
      (fillL (fun j => some (j * k, k)) parts (zerosL z len)).ob fun l => newRowL H l len len e k else none
def amakeSlice (P : Program) (t : TypeId) (l c : Nat) (H : ASt) : VRes :=
  (sliceElem P t).ob fun e => (P.info? e).ob fun i => (zeroL P e).ob fun z =>
    bif Nat.beq z.length i.size && (Nat.ble l c && (Nat.ble (Nat.mul i.bytes c) 281474976710656 && Nat.ble c 9223372036854775807)) then newRowL H (zerosL z c) l c e i.size else none
def aloadAt (P : Program) (t : TypeId) (a : Value) (H : ASt) : Option Value :=
  (ptrOf a).ob fun p => (P.underlying t).ob fun d => (sizeP P t).ob fun k => aloadVar H (isAggD d) k p.1 p.2
def astoreAt (P : Program) (t : TypeId) (a v : Value) (H : ASt) : Option ASt :=
  (ptrOf a).ob fun p => (sizeP P t).ob fun k => bif Nat.beq v.cells.toList.length k then astores p.1 p.2 v.cells.toList H else none
def fieldOf (P : Program) (t f : Nat) : Option Field := match P.underlying t with
  | some (.struct fs) => fs.toList[f]?
  | _ => none
def afield (P : Program) (t : TypeId) (a : Value) (f : Nat) : Option Value :=
  (ptrOf a).ob fun p => (fieldOf P t f).ob fun fd => (sizeP P fd.type).ob fun k => bif Nat.beq k 0 then none else some (.pointer (some ⟨p.1, Nat.add p.2 fd.offset, none⟩))
def aindexA (P : Program) (x : Value) (j n : Nat) (e : TypeId) : Option Value :=
  (ptrOf x).ob fun p => (sizeP P e).ob fun k => bif Nat.blt j n then some (.pointer (some ⟨p.1, Nat.add p.2 (Nat.mul j k), none⟩)) else none
def aindexS (P : Program) (j : Nat) (e : TypeId) : Value → Option Value
  | .slice (some ⟨b, o, none⟩) n c => (sizeP P e).ob fun k => bif Nat.blt j n then some (.pointer (some ⟨b, Nat.add o (Nat.mul j k), none⟩)) else none
  | _ => none
def aindexD (P : Program) (x : Value) (j : Nat) : Option TypeDesc → Option Value
  | some (.array n e) => aindexA P x j n e
  | some (.slice e) => aindexS P j e x
  | _ => none
def aindex (P : Program) (t : TypeId) (x ix : Value) : Option Value := (natOf ix).ob fun j => aindexD P x j (P.underlying t)
def aggL : Value → Option (List Value)
  | .agg cs => some cs.toList
  | _ => none
/-- A part of an aggregate's cells. -/
def partL (cs : List Value) (off size : Nat) (agg : Bool) : Option Value := bif agg then some (aggV ((cs.drop off).take size)) else cs[off]?
def apartT (P : Program) (t : TypeId) (cs : List Value) (off : Nat) : Option Value := (P.underlying t).ob fun d => (sizeP P t).ob fun k => partL cs off k (isAggD d)
def afieldOf (P : Program) (t : TypeId) (x : Value) (f : Nat) : Option Value := (aggL x).ob fun cs => (fieldOf P t f).ob fun fd => apartT P fd.type cs fd.offset
def arrayOf (P : Program) (t : TypeId) : Option (Nat × TypeId) := match P.underlying t with
  | some (.array n e) => some (n, e)
  | _ => none
def aindexOf (P : Program) (t : TypeId) (x ix : Value) : Option Value :=
  (aggL x).ob fun cs => (natOf ix).ob fun j => (arrayOf P t).ob fun p => (sizeP P p.2).ob fun k => bif Nat.blt j p.1 then apartT P p.2 cs (Nat.mul j k) else none
def bound (d : Nat) : Option Value → Option Nat
  | none => some d
  | some v => natOf v
def strideIs (H : ASt) (b k : Nat) : Bool := match H.heap.get b with
  | some (.cells B) => Nat.beq B.stride k
  | _ => false
def asliceS (H : ASt) (l k : Nat) (hi : Option Value) : Value → Option Value
  | .slice none 0 0 => (bound 0 hi).ob fun h => bif Nat.beq l 0 && Nat.beq h 0 then some (.slice none 0 0) else none
  | .slice (some ⟨b, o, none⟩) n c => (bound n hi).ob fun h => bif Nat.ble l h && (Nat.ble h c && strideIs H b k) then some (.slice (some ⟨b, Nat.add o (Nat.mul l k), none⟩) (Nat.sub h l) (Nat.sub c l)) else none
  | _ => none
def asliceA (l n k : Nat) (hi : Option Value) (x : Value) : Option Value :=
  (ptrOf x).ob fun p => (bound n hi).ob fun h => bif Nat.ble l h && (Nat.ble h n && Nat.blt 0 p.1) then
    some (.slice (some ⟨p.1, (bif Nat.beq n l then p.2 else Nat.add p.2 (Nat.mul l k)), none⟩) (Nat.sub h l) (Nat.sub n l)) else none
def asliceD (P : Program) (x : Value) (l : Nat) (hi : Option Value) (H : ASt) : Option TypeDesc → Option Value
  | some (.slice e) => (sizeP P e).ob fun k => asliceS H l k hi x
  | some (.array n e) => (sizeP P e).ob fun k => asliceA l n k hi x
  | _ => none
def aslice (P : Program) (t : TypeId) (x : Value) (lo hi : Option Value) (H : ASt) : Option Value := (bound 0 lo).ob fun l => asliceD P x l hi H (P.underlying t)
/-- With a third number. -/
def aslice3S (H : ASt) (l h m k : Nat) : Value → Option Value
  | .slice none 0 0 => bif Nat.beq l 0 && (Nat.beq h 0 && Nat.beq m 0) then some (.slice none 0 0) else none
  | .slice (some ⟨b, o, none⟩) n c => bif Nat.ble l h && (Nat.ble h m && (Nat.ble m c && strideIs H b k)) then some (.slice (some ⟨b, Nat.add o (Nat.mul l k), none⟩) (Nat.sub h l) (Nat.sub m l)) else none
  | _ => none
def aslice3 (P : Program) (t : TypeId) (x : Value) (lo hi : Option Value) (mx : Value) (H : ASt) : Option Value :=
  (bound 0 lo).ob fun l => hi.ob fun hi => (natOf hi).ob fun h => (natOf mx).ob fun m => (sliceElem P t).ob fun e => (sizeP P e).ob fun k => aslice3S H l h m k x
def aextract (j : Nat) : Value → Option Value
  | .tuple vs => vs.toList[j]?
  | _ => none
/-- The bytes of a row. -/
def byteOf : Value → Option UInt8
  | .int .u8 (.ofNat n) => bif Nat.blt n 256 then some (UInt8.ofNat n) else none
  | _ => none
def byteList : List Value → Option (List UInt8)
  | [] => some []
  | v :: r => (byteOf v).ob fun b => (byteList r).ob fun l => some (b :: l)
def isU8 (P : Program) (e : TypeId) : Bool := match P.underlying e with
  | some (.int .u8) => true
  | _ => false
def bytesV (b : UInt8) : Value := .int .u8 b.toNat
def bytesCells (s : ByteArray) : List Value := s.data.toList.map bytesV
def convSB (P : Program) (H : ASt) (e : TypeId) (s : ByteArray) : VRes := bif isU8 P e then newRowL H (bytesCells s) s.data.toList.length s.data.toList.length e 1 else none
def convBS (P : Program) (H : ASt) (e : TypeId) : Value → VRes
  | .slice none 0 0 => bif isU8 P e then some (.string .empty, H) else none
  | .slice (some ⟨b, o, none⟩) n c => bif isU8 P e then (aloads H b o n).ob fun l => (byteList l).ob fun bs => some (.string ⟨bs.toArray⟩, H) else none
  | _ => none
/-- Whole numbers. -/
def wrapF (k : IntKind) (n : Int) : Int := match n, k with
  | .ofNat m, .i64 => bif Nat.ble m 9223372036854775807 then .ofNat m else k.wrap n
  | .ofNat m, .u8 => .ofNat (Nat.mod m 256)
  | .ofNat m, .u32 => .ofNat (Nat.mod m 4294967296)
  | .ofNat m, .u64 => .ofNat (Nat.mod m 18446744073709551616)
  | _, _ => k.wrap n
def convII (H : ASt) (k : IntKind) (n : Int) : VRes := some (.int k (wrapF k n), H)
def aconvertD (P : Program) (S : T Value) (H : ASt) (o : Oper) (v : Value) : Option TypeDesc → Option TypeDesc → VRes
  | some _, some (.int k) => (match v with | .int _ n => convII H k n | _ => none)
  | some .string, some (.slice e) => (match v with | .string s => convSB P H e s | _ => none)
  | some (.slice e), some .string => convBS P H e v
  | some .string, some .string => (match v with | .string s => some (.string s, H) | _ => none)
  | _, _ => apure P S H o
/-- Maps whose keys are whole numbers. -/
def findE (k : Value) : List (Value × Value × Nat) → Nat → Option (Option (Nat × Value))
  | [], _ => some none
  | e :: es, i => (Instr.sameNow (.int .i64) k e.1).ob fun b => bif b then some (some (i, e.2.1)) else findE k es (Nat.add i 1)
def isIntD : Option TypeDesc → Bool
  | some (.int _) => true
  | _ => false
def mapAt (H : ASt) (r : Nat) : Option (Nat × List (Value × Value × Nat) × Nat) := match H.heap.get r with
  | some (.obj (.map es clock)) => some (r, es, clock)
  | _ => none
def amap (H : ASt) : Value → Option (Nat × List (Value × Value × Nat) × Nat)
  | .map (some r) => mapAt H r
  | _ => none
def entries (H : ASt) : Value → Option (List (Value × Value × Nat))
  | .map none => some []
  | .map (some r) => (mapAt H r).ob fun x => some x.2.1
  | _ => none
def aobj (H : ASt) (r : Nat) (o : AObj) : ASt := { heap := H.heap.set r (.obj o), mem := H.mem, next := H.next }
def anewObj (H : ASt) (o : AObj) : Option ASt := bif Nat.blt (Nat.add H.next 1) 1000000000000 then some { heap := H.heap.set H.next (.obj o), mem := H.mem, next := Nat.add H.next 1 } else none
/-- The element type of a map whose keys are whole numbers. -/
def mapElem (P : Program) (t : TypeId) : Option TypeId := match P.underlying t with
  | some (.map key elem) => bif isIntD (P.underlying key) then some elem else none
  | _ => none
def okV (ok b : Bool) (v : Value) : Value := bif ok then .tuple #[v, .bool b] else v
def lookIn (P : Program) (elem : TypeId) (ok : Bool) : Option (Nat × Value) → Option Value
  | some p => some (okV ok true p.2)
  | none => (zeroV P elem).ob fun z => some (okV ok false z)
def alookup (P : Program) (t : TypeId) (m k : Value) (ok : Bool) (H : ASt) : Option Value :=
  (mapElem P t).ob fun elem => bif bare 9 k then (entries H m).ob fun es => (findE k es 0).ob fun r => lookIn P elem ok r else none
def setE (v : Value) : List (Value × Value × Nat) → Nat → List (Value × Value × Nat)
  | [], _ => []
  | e :: es, 0 => (e.1, v, e.2.2) :: es
  | e :: es, i + 1 => e :: setE v es i
def delE : List (Value × Value × Nat) → Nat → List (Value × Value × Nat)
  | [], _ => []
  | _ :: es, 0 => es
  | e :: es, i + 1 => e :: delE es i
def updIn (H : ASt) (r clock : Nat) (es : List (Value × Value × Nat)) (k v : Value) : Option (Nat × Value) → ASt
  | some p => aobj H r (.map (setE v es p.1) clock)
  | none => aobj H r (.map (es ++ [(k, v, clock)]) (Nat.add clock 1))
def amapUpdate (P : Program) (t : TypeId) (m k v : Value) (H : ASt) : Option ASt :=
  (mapElem P t).ob fun _ => bif bare 9 k then (amap H m).ob fun x => (findE k x.2.1 0).ob fun r => some (updIn H x.1 x.2.2 x.2.1 k v r) else none
def delIn (H : ASt) (r clock : Nat) (es : List (Value × Value × Nat)) : Option (Nat × Value) → ASt
  | some p => aobj H r (.map (delE es p.1) clock)
  | none => aobj H r (.map es clock)
def deleteAt (H : ASt) (k : Value) : Value → Option ASt
  | .map none => some H
  | .map (some r) => (mapAt H r).ob fun x => (findE k x.2.1 0).ob fun p => some (delIn H x.1 x.2.2 x.2.1 p)
  | _ => none
def adelete (P : Program) (t : TypeId) (m k : Value) (H : ASt) : Option ASt :=
  (mapElem P t).ob fun _ => bif bare 9 k then deleteAt H k m else none
/-- What is appended: how many elements, their cells. -/
def srcS (H : ASt) (size : Nat) : Value → Option (Nat × List Value)
  | .slice none 0 0 => some (0, [])
  | .slice (some ⟨b, o, none⟩) n c => (aloads H b o (Nat.mul n size)).ob fun l => bif l.all oneCell then some (n, l) else none
  | _ => none
def asrcD (size : Nat) (x : Value) (H : ASt) : Option TypeDesc → Option (Nat × List Value)
  | some (.slice _) => srcS H size x
  | some .string => (match x with | .string s => bif Nat.beq size 1 then some (s.data.toList.length, bytesCells s) else none | _ => none)
  | _ => none
def aappendAt (P : Program) (t tx : TypeId) (s x : Value) (H : ASt) : VRes :=
  (sliceElem P t).ob fun e => (P.info? e).ob fun i => i.zero.ob fun z => bif Nat.beq z.cells.toList.length i.size && Nat.blt 0 i.size then
    (asrcD i.size x H (P.underlying tx)).ob fun m => aappend H s m.2 m.1 i.size i.bytes e else none
def lenV (n : Nat) : Option Value := some (.int .i64 (.ofNat n))
def alenD (x : Value) (H : ASt) : Option TypeDesc → Option Value
  | some .string => (match x with | .string s => lenV s.data.toList.length | _ => none)
  | some (.slice _) => (match x with | .slice _ n _ => lenV n | _ => none)
  | some (.map _ _) => (entries H x).ob fun es => lenV es.length
  | some (.array n _) => lenV n
  | _ => none
def copySS (k : Nat) (H : ASt) (b o n b' o' m : Nat) : VRes :=
  (aloads H b' o' (Nat.mul (Nat.min m n) k)).ob fun l => (astores b o l H).ob fun H' => (lenV (Nat.min m n)).ob fun r => some (r, H')
def copyA (k : Nat) (H : ASt) (b o n : Nat) : Value → VRes
  | .slice (some ⟨b', o', none⟩) m c' => copySS k H b o n b' o' m
  | .slice none 0 0 => some (.int .i64 0, H)
  | _ => none
def acopy (P : Program) (t : TypeId) (d s : Value) (H : ASt) : VRes :=
  (sliceElem P t).ob fun e => (sizeP P e).ob fun k => (match d with
    | .slice (some ⟨b, o, none⟩) n c => copyA k H b o n s
    | _ => none)
def clearIn (P : Program) (e : TypeId) (H : ASt) : Value → Option ASt
  | .slice (some ⟨b, o, none⟩) n c => bif Nat.beq n 0 then some H else (zeroL P e).ob fun z => astores b o (zerosL z n) H
  | .slice none 0 0 => some H
  | _ => none
def aclear (P : Program) (t : TypeId) (x : Value) (H : ASt) : Option ASt := (sliceElem P t).ob fun e => clearIn P e H x

/-- Is it nil? For pointers, slices, maps, functions. -/
def nilOf : Value → Option Bool
  | .pointer none | .slice none 0 0 | .map none | .nilFunc => some true
  | .pointer (some _) | .slice (some _) _ _ | .map (some _) | .func .. => some false
  | _ => none
def nilKind : Option TypeDesc → Value → Value → Bool
  | some (.pointer _), .pointer _, .pointer _ => true
  | some (.slice _), .slice _ _ _, .slice _ _ _ => true
  | some (.map _ _), .map _, .map _ => true
  | some (.func _ _ _), .func .., .nilFunc => true
  | some (.func _ _ _), .nilFunc, .func .. => true
  | some (.func _ _ _), .nilFunc, .nilFunc => true
  | _, _, _ => false
def eqBool (op : BinOp) (b : Bool) : Option Value := match op with
  | .eql => some (.bool b)
  | .neq => some (.bool (!b))
  | _ => none
def nilCmp (P : Program) (op : BinOp) (t : TypeId) (a b : Value) : Option Value :=
  (nilOf a).ob fun na => (nilOf b).ob fun nb => bif (na || nb) && nilKind (P.underlying t) a b then eqBool op (na && nb) else none
/-- Comparisons of whole numbers. -/
def intLt : Int → Int → Bool
  | .ofNat m, .ofNat n => Nat.blt m n
  | .negSucc _, .ofNat _ => true
  | .ofNat _, .negSucc _ => false
  | .negSucc m, .negSucc n => Nat.blt n m
def intEq : Int → Int → Bool
  | .ofNat m, .ofNat n => Nat.beq m n
  | .negSucc m, .negSucc n => Nat.beq m n
  | _, _ => false
def kindEq (a b : IntKind) : Bool := match a, b with
  | .i8, .i8 | .i16, .i16 | .i32, .i32 | .i64, .i64 | .u8, .u8 | .u16, .u16 | .u32, .u32 | .u64, .u64 => true
  | _, _ => false
def addI : Int → Int → Int
  | .ofNat m, .ofNat n => .ofNat (Nat.add m n)
  | a, b => a + b
def subI : Int → Int → Int
  | .ofNat m, .ofNat n => bif Nat.ble n m then .ofNat (Nat.sub m n) else .ofNat m - .ofNat n
  | a, b => a - b
def mulI : Int → Int → Int
  | .ofNat m, .ofNat n => .ofNat (Nat.mul m n)
  | a, b => a * b
def bitsI (P : Program) (op : BinOp) (k : IntKind) (a b : Int) : Option Value := match pureRun P (Op.intBits op k a b) with
  | some v => constV v
  | none => none
def divI (P : Program) (op : BinOp) (k : IntKind) (a b : Int) : Option Value := match pureRun P (Op.intDiv op k a b) with
  | some v => constV v
  | none => none
def shiftI (P : Program) (op : BinOp) (k : IntKind) (a : Int) (yk : IntKind) (b : Int) : Option Value := match pureRun P (Op.shift op k a yk b) with
  | some v => constV v
  | none => none
def same (k k' : IntKind) (r : Option Value) : Option Value := bif kindEq k k' then r else none
/-- Upon whole numbers. -/
def intOp (P : Program) (op : BinOp) (k : IntKind) (a : Int) (k' : IntKind) (b : Int) : Option Value :=
  BinOp.casesOn (motive := fun _ => Option Value) op
    (same k k' (some (.int k (wrapF k (addI a b))))) (same k k' (some (.int k (wrapF k (subI a b))))) (same k k' (some (.int k (wrapF k (mulI a b)))))
    (same k k' (divI P op k a b)) (same k k' (divI P op k a b)) (same k k' (bitsI P op k a b)) (same k k' (bitsI P op k a b)) (same k k' (bitsI P op k a b))
    (shiftI P op k a k' b) (shiftI P op k a k' b) (same k k' (bitsI P op k a b))
    (same k k' (some (.bool (intEq a b)))) (same k k' (some (.bool (!intEq a b)))) (same k k' (some (.bool (intLt a b)))) (same k k' (some (.bool (!intLt b a)))) (same k k' (some (.bool (intLt b a)))) (same k k' (some (.bool (!intLt a b))))
def bytesEq : List UInt8 → List UInt8 → Bool
  | [], [] => true
  | a :: x, b :: y => Nat.beq a.toNat b.toNat && bytesEq x y
  | _, _ => false
def bytesLt : List UInt8 → List UInt8 → Bool
  | _, [] => false
  | [], _ :: _ => true
  | a :: x, b :: y => Nat.blt a.toNat b.toNat || (Nat.beq a.toNat b.toNat && bytesLt x y)
def strOp (op : BinOp) (a b : ByteArray) : Option Value := match op with
  | .eql => some (.bool (bytesEq a.data.toList b.data.toList))
  | .neq => some (.bool (!bytesEq a.data.toList b.data.toList))
  | .add => bif Nat.ble (Nat.add a.data.toList.length b.data.toList.length) 1000000 then some (.string ⟨(a.data.toList ++ b.data.toList).toArray⟩) else none
  | .lss => some (.bool (bytesLt a.data.toList b.data.toList))
  | .leq => some (.bool (bytesLt a.data.toList b.data.toList || bytesEq a.data.toList b.data.toList))
  | .gtr => some (.bool (!(bytesLt a.data.toList b.data.toList || bytesEq a.data.toList b.data.toList)))
  | .geq => some (.bool (!bytesLt a.data.toList b.data.toList))
  | _ => none
def isBoolD : Option TypeDesc → Bool
  | some .bool => true
  | _ => false
def orPure (P : Program) (S : T Value) (H : ASt) (o : Oper) : Option Value → VRes
  | some v => some (v, H)
  | none => apure P S H o
def binV (P : Program) (S : T Value) (H : ASt) (o : Oper) (op : BinOp) (t : TypeId) (a b : Value) : VRes := match a, b with
  | .int k a, .int k' b => ret H (intOp P op k a k' b)
  | .string a, .string b => ret H (strOp op a b)
  | .agg _, _ => apure P S H o
  | .bool a, .bool b => bif isBoolD (P.underlying t) then ret H (eqBool op (bif a then b else !b)) else none
  | a, b => orPure P S H o (nilCmp P op t a b)
def unV (P : Program) (op : UnOp) (x : Value) : Option Value := match op, x with
  | .not, .bool b => some (.bool (!b))
  | op, .int k n => (match pureRun P (Op.unary op (.int k n)) with | some v => constV v | none => none)
  | _, _ => none

/-- The arms of an operation. -/
abbrev Arm := Program → T Value → ASt → Oper → VRes
def vNone : Arm := fun _ _ _ _ => none
def vPure : Arm := apure
def vMove (x : Operand) : Arm := fun _ S H _ => ret H (opval S x)
def pickV (H : ASt) (S : T Value) (a b : Operand) : Value → VRes
  | .bool t => ret H (opval S (bif t then a else b))
  | _ => none
def vPick (c a b : Operand) : Arm := fun _ S H _ => (opval S c).ob fun v => pickV H S a b v
def vAlloc (t : TypeId) : Arm := fun P _ H _ => (zeroV P t).ob fun z => avar H t (strideOf P t) z
def vBox (t : TypeId) (x : Operand) : Arm := fun P S H _ => (opval S x).ob fun v => avar H t (strideOf P t) v
def vBuild (t : TypeId) (ps : Array (Nat × Operand)) : Arm := fun P S H _ => (opparts S ps.toList).ob fun l => ret H (abuild P t l)
def vBuildSlice (t : TypeId) (n : Nat) (ps : Array (Nat × Operand)) : Arm := fun P S H _ => (opparts S ps.toList).ob fun l => abuildSlice P t n l H
def vLoad (t : TypeId) (x : Operand) : Arm := fun P S H _ => (opval S x).ob fun a => ret H (aloadAt P t a H)
def nilCk : Value → Option Value
  | .pointer (some a) => some (.pointer (some a))
  | .func (.func f) a b => some (.func (.func f) a b)
  | .func (.yield l) a b => some (.func (.yield l) a b)
  | _ => none
def vNilCheck (x : Operand) : Arm := fun _ S H _ => (opval S x).ob fun v => ret H (nilCk v)
def vBin (op : BinOp) (t : TypeId) (x y : Operand) (_ : TypeId) : Arm := fun P S H o => (opval S x).ob fun a => (opval S y).ob fun b => binV P S H o op t a b
def vUn (op : UnOp) (_ : TypeId) (x : Operand) : Arm := fun P S H _ => (opval S x).ob fun a => ret H (unV P op a)
def vConvert (src dst : TypeId) (x : Operand) : Arm := fun P S H o => (opval S x).ob fun v => aconvertD P S H o v (P.underlying src) (P.underlying dst)
def toArr : Value → Nat → Option Value
  | .slice (some ⟨b, o, none⟩) l c, n => bif Nat.ble n l && Nat.blt 0 l then some (.pointer (some ⟨b, o, none⟩)) else none
  | _, _ => none
def vToArray (t : TypeId) (x : Operand) : Arm := fun P S H _ => (opval S x).ob fun v => (arrayOf P t).ob fun p => ret H (toArr v p.1)
def ifaceV (t : TypeId) (v : Value) : Option TypeDesc → Option Value
  | some (.interface _) => none
  | some _ => some (.iface t v)
  | none => none
def vMakeInterface (t : TypeId) (x : Operand) : Arm := fun P S H _ => (opval S x).ob fun v => ret H (ifaceV t v (P.underlying t))
def funcV (fn : Fn) (l k : List Value) : Option Value := match fn with
  | .func g => some (.func (.func g) l.toArray k.toArray)
  | _ => none
def vMakeFunc (fn : Fn) (first cap : Array Operand) : Arm := fun _ S H _ => (opvals S first.toList).ob fun l => (opvals S cap.toList).ob fun k => ret H (funcV fn l k)
def newMap (H : ASt) : Option Operand → VRes
  | none => (anewObj H (.map [] 0)).ob fun H' => some (.map (some H.next), H')
  | some _ => none
def vMakeMap (_ : TypeId) (r : Option Operand) : Arm := fun _ _ H _ => newMap H r
def vMakeSlice (t : TypeId) (l c : Operand) : Arm := fun P S H _ => (opval S l).ob fun l => (opval S c).ob fun c => (natOf l).ob fun l => (natOf c).ob fun c => amakeSlice P t l c H
def sliceStr (l : List UInt8) (lo hi : Option Value) : Option Value :=
  (bound 0 lo).ob fun a => (bound l.length hi).ob fun b => bif Nat.ble a b && Nat.ble b l.length then some (.string ⟨((l.drop a).take (Nat.sub b a)).toArray⟩) else none
def isStrD : Option TypeDesc → Bool
  | some .string => true
  | _ => false
def sliceV (P : Program) (S : T Value) (H : ASt) (t : TypeId) (lo hi : Option Value) (mx : Option Operand) (v : Value) : VRes := match v, mx with
  | .string s, none => bif isStrD (P.underlying t) then ret H (sliceStr s.data.toList lo hi) else none
  | v, none => ret H (aslice P t v lo hi H)
  | v, some m => (opval S m).ob fun m => ret H (aslice3 P t v lo hi m H)
def vSlice (t : TypeId) (x : Operand) (lo hi mx : Option Operand) : Arm := fun P S H _ => (opval S x).ob fun v => (opt S lo).ob fun lo => (opt S hi).ob fun hi => sliceV P S H t lo hi mx v
def vFieldAddr (t : TypeId) (x : Operand) (f : Nat) : Arm := fun P S H _ => (opval S x).ob fun v => ret H (afield P t v f)
def vField (t : TypeId) (x : Operand) (f : Nat) : Arm := fun P S H _ => (opval S x).ob fun v => ret H (afieldOf P t v f)
def vIndexAddr (t : TypeId) (x ix : Operand) : Arm := fun P S H _ => (opval S x).ob fun v => (opval S ix).ob fun j => ret H (aindex P t v j)
def byteAt (P : Program) (t : TypeId) (l : List UInt8) (j : Value) : Option Value := bif isStrD (P.underlying t) then (natOf j).ob fun j => (l[j]?).ob fun b => some (bytesV b) else none
def indexV (P : Program) (t : TypeId) (j : Value) : Value → Option Value
  | .string s => byteAt P t s.data.toList j
  | v => aindexOf P t v j
def vIndex (t : TypeId) (x ix : Operand) : Arm := fun P S H _ => (opval S x).ob fun v => (opval S ix).ob fun j => ret H (indexV P t j v)
def vLookup (t : TypeId) (x ix : Operand) (ok : Bool) : Arm := fun P S H _ => (opval S x).ob fun m => (opval S ix).ob fun k => ret H (alookup P t m k ok H)
def vExtract (x : Operand) (j : Nat) : Arm := fun _ S H _ => (opval S x).ob fun v => ret H (aextract j v)
def unitV (r : Option ASt) : VRes := r.ob fun H' => some (.tuple #[], H')
def bAppend (P : Program) (H : ASt) (args : List Value) (ts : List TypeId) : VRes := match args, ts with
  | [s, x], [t, tx] => aappendAt P t tx s x H
  | _, _ => none
def bLen (P : Program) (H : ASt) (args : List Value) (ts : List TypeId) : VRes := match args, ts with
  | [x], [t] => ret H (alenD x H (P.underlying t))
  | _, _ => none
def bCopy (P : Program) (H : ASt) (args : List Value) (ts : List TypeId) : VRes := match args, ts with
  | [d, s], [t, tx] => bif (sliceElem P tx).isSome then acopy P t d s H else none
  | _, _ => none
def bDelete (P : Program) (H : ASt) (args : List Value) (ts : List TypeId) : VRes := match args, ts with
  | [m, k], [t, _] => unitV (adelete P t m k H)
  | _, _ => none
def bClear (P : Program) (H : ASt) (args : List Value) (ts : List TypeId) : VRes := match args, ts with
  | [x], [t] => unitV (aclear P t x H)
  | _, _ => none
def vBuiltin (b : Builtin) (c : Call) : Arm := fun P S H o => match b with
  | .append => (opvals S c.args.toList).ob fun l => bAppend P H l c.argTypes.toList
  | .len => (opvals S c.args.toList).ob fun l => bLen P H l c.argTypes.toList
  | .copy => (opvals S c.args.toList).ob fun l => bCopy P H l c.argTypes.toList
  | .delete => (opvals S c.args.toList).ob fun l => bDelete P H l c.argTypes.toList
  | .clear => (opvals S c.args.toList).ob fun l => bClear P H l c.argTypes.toList
  | _ => apure P S H o

/-- What an operation comes to. -/
inductive ARes where
  | val (v : Value)
  | skip
  | enter (f : FuncId) (args : List Value)
  | round (l : Nat) (args : List Value)
abbrev XRes := Option (ARes × ASt)
abbrev XArm := Program → T Value → ASt → Oper → XRes
def val (r : VRes) : XRes := r.ob fun p => some (.val p.1, p.2)
def skp (r : Option ASt) : XRes := r.ob fun H' => some (.skip, H')
def xVal (a : Arm) : XArm := fun P S H o => val (a P S H o)
def xStore (t : TypeId) (a x : Operand) : XArm := fun P S H _ => (opval S a).ob fun a => (opval S x).ob fun v => skp (astoreAt P t a v H)
def xMapUpdate (t : TypeId) (m k x : Operand) : XArm := fun P S H _ => (opval S m).ob fun m => (opval S k).ob fun k => (opval S x).ob fun v => skp (amapUpdate P t m k v H)
/-- Has a function a body? -/
def hasBody (P : Program) (f : FuncId) : Bool := match P.funcs[f]? with
  | some fn => fn.body.isSome
  | none => false
def callBare (P : Program) (g : FuncId) (args : List Value) : Option Value := bif args.all (bare 9) then (match pureRun P (callFunc g args.toArray) with
  | some (.value v) => constV v
  | _ => none) else none
def aCallV (P : Program) (args : List Value) (H : ASt) : Value → XRes
  | .func (.func g) first cap => bif hasBody P g then some (.enter g (first.toList ++ (args ++ cap.toList)), H)
      else bif Nat.beq first.toList.length 0 && Nat.beq cap.toList.length 0 then val (ret H (callBare P g args)) else none
  | .func (.yield l) _ _ => some (.round l args, H)
  | _ => none
def xCall (c : Call) : XArm := fun P S H o => match c.callee with
  | .value f => (opval S f).ob fun f => (opvals S c.args.toList).ob fun l => aCallV P l H f
  | .builtin b => val (vBuiltin b c P S H o)
  | .invoke _ _ => none
def xNone : XArm := fun _ _ _ _ => none
/-- The table of the operations. -/
def opArm : Op → XArm := @Op.rec (fun _ => XArm)
  (fun x => xVal (vMove x)) (fun x => xVal (vMove x)) (fun c a b => xVal (vPick c a b)) (fun t => xVal (vAlloc t)) (fun t x => xVal (vBox t x)) (fun t p => xVal (vBuild t p)) (fun t n p => xVal (vBuildSlice t n p))
  xMapUpdate (fun t a => xVal (vLoad t a)) xStore (fun _ => xNone) (fun _ => xNone) (fun x => xVal (vNilCheck x)) (fun op t x y u => xVal (vBin op t x y u)) (fun op t x => xVal (vUn op t x)) (fun s d x => xVal (vConvert s d x)) (fun t x => xVal (vToArray t x))
  (fun t x => xVal (vMakeInterface t x)) (fun fn a b => xVal (vMakeFunc fn a b)) (fun t r => xVal (vMakeMap t r)) (fun _ _ => xNone) (fun t l c => xVal (vMakeSlice t l c)) (fun t x a b c => xVal (vSlice t x a b c)) (fun t x f => xVal (vFieldAddr t x f)) (fun t x f => xVal (vField t x f))
  (fun t x i => xVal (vIndexAddr t x i)) (fun t x i => xVal (vIndex t x i)) (fun t x i ok => xVal (vLookup t x i ok)) xMapUpdate (fun _ _ _ => xNone) (fun _ _ _ _ => xNone) (fun _ _ => xNone) (fun _ _ => xNone) (fun _ => xNone) (fun _ _ _ _ => xNone)
  (fun x j => xVal (vExtract x j)) xCall (fun _ => xNone) (fun _ => xNone) (fun _ => xNone) (fun _ _ => xNone) (fun _ _ _ => xNone) (fun _ _ => xNone)
def aexec (P : Program) (S : T Value) (H : ASt) (o : Oper) : XRes := opArm o.op P S H o

/-- The state of an activation: its temporaries, how many, the marks of its loops, the world. -/
structure St where
  S : T Value
  n : Nat
  D : List Nat
  H : ASt
inductive AEx where
  | normal | exit (id : Nat) | goto (l : Nat) | ret
def putS (S : T Value) (n : Nat) (d : Option Tmp) (v : Value) : T Value := match d with
  | some d => T.bi (Nat.blt d n) (S.set d v) S
  | none => S
abbrev CodeR := Option (AEx × St)
structure Rec where
  code : Option Nat → Code → St → CodeR
  call : FuncId → List Value → ASt → VRes
  round : Nat → List Value → ASt → VRes
def dstAt (ops : List Oper) (j : Nat) : Option Tmp := (ops[j]?).ob fun o => o.dst
def isB (want : Bool) : Value → Bool
  | .bool b => bif want then b else !b
  | _ => false
def wantedG (ops : List Oper) (S : T Value) : Option (Nat × Bool) → Bool
  | none => true
  | some p => (match dstAt ops p.1 with | some d => isB p.2 (getS S d) | none => false)
def wantedA (ops : List Oper) (o : Oper) (S : T Value) : Bool := wantedG ops S o.guard
/-- An operation, its calls with it. -/
def xdo (rec : Rec) : ARes × ASt → VRes := fun p => ARes.casesOn (motive := fun _ => VRes) p.1 (fun v => some (v, p.2)) (some (undef, p.2)) (fun f args => rec.call f args p.2) (fun l args => rec.round l args p.2)
def xop (P : Program) (rec : Rec) (S : T Value) (H : ASt) (o : Oper) : VRes := (aexec P S H o).ob (xdo rec)
/-- A region in the order of the text. -/
def runOps (P : Program) (rec : Rec) (ops : List Oper) (n : Nat) : List Oper → T Value → ASt → Option (T Value × ASt)
  | [], S, H => some (S, H)
  | o :: r, S, H => T.bi (wantedA ops o S) ((xop P rec S H o).ob fun p => runOps P rec ops n r (putS S n o.dst p.1) p.2) (runOps P rec ops n r (putS S n o.dst undef) H)

/-- Does it do more than read? -/
def isEff (P : Program) : Op → Bool
  | .move _ | .assign _ | .pick .. | .load .. | .nilCheck _ | .binOp .. | .unOp .. | .makeInterface .. | .makeFunc .. | .slice .. | .fieldAddr .. | .field .. | .indexAddr .. | .index .. | .lookup .. | .extract .. | .build .. | .sliceToArrayPointer .. => false
  | .convert _ d _ => (match P.underlying d with | some (.slice _) => true | _ => false)
  | .call { callee := .builtin .len, .. } | .call { callee := .builtin .min, .. } | .call { callee := .builtin .max, .. } | .call { callee := .builtin .cap, .. } => false
  | _ => true
def isConstO : Operand → Bool
  | .const _ => true
  | _ => false
/-- A new variable that nobody has seen: it may come at any time. -/
def isAlloc : Op → Bool
  | .alloc _ => true
  | .buildSlice _ _ parts => parts.toList.all fun p => isConstO p.2
  | _ => false
structure Info where
  mask : Nat
  eff : Bool
  al : Bool
  idx : Nat
def bindsB (e : Edge) : Bool := Region.binds .any e
/-- What an operation comes after, directly or through others. -/
def maskOf (prev : List Nat) : List Edge → Option Nat
  | [] => some 0
  | e :: r => bif bindsB e then
      (match prev.reverse[e.on]? with
      | some m => (maskOf prev r).ob fun k => some ((2 ^ e.on ||| m) ||| k)
      | none => none)
    else maskOf prev r
/-- All masks, the last first. -/
def masks : List Oper → List Nat → Option (List Nat)
  | [], acc => some acc
  | o :: r, acc => (maskOf acc o.after.toList).ob fun m => masks r (m :: acc)
def infos (P : Program) : List Oper → List Nat → Nat → List Info
  | o :: r, m :: ms, k => { mask := m, eff := isEff P o.op, al := isAlloc o.op && o.guard.isNone, idx := k } :: infos P r ms (bif isEff P o.op then k + 1 else k)
  | _, _, _ => []
/-- The effects' numbers and masks. -/
def effMasks : List Info → Nat → List (Nat × Nat)
  | [], _ => []
  | i :: r, k => bif i.eff then (k, i.mask) :: effMasks r (k + 1) else effMasks r (k + 1)
def optEq (a : Option Tmp) (b : Tmp) : Bool := match a with | some x => Nat.beq x b | none => false
/-- What a temporary is read of: an operation of the region writes it that is directly ahead, or one that comes behind. -/
def readOk (k : Nat) (o : Oper) (t : Nat) : List Oper → List Info → Nat → Bool
  | p :: ops, i :: is, j => (!optEq p.dst t || Nat.beq j k || o.after.toList.any (fun e => bindsB e && Nat.beq e.on j) || i.mask.testBit k) && readOk k o t ops is (j + 1)
  | _, _, _ => true
def readsOk (k : Nat) (o : Oper) (ops : List Oper) (is : List Info) : List Operand → Bool
  | [] => true
  | .tmp t :: r => readOk k o t ops is 0 && readsOk k o ops is r
  | _ :: r => readsOk k o ops is r
def allReads (ops : List Oper) (is : List Info) : List Oper → Nat → Bool
  | [], _ => true
  | o :: r, k => readsOk k o ops is o.op.operands.toList && allReads ops is r (k + 1)
def distinct : List (Option Tmp) → Bool
  | [] => true
  | none :: r => distinct r
  | some t :: r => r.all (fun x => !optEq x t) && distinct r
def loOf (effs : List (Nat × Nat)) (mask : Nat) : Nat := (effs.filter fun e => mask.testBit e.1).length
def hiOf (effs : List (Nat × Nat)) (k : Nat) : Nat := (effs.filter fun e => !e.2.testBit k).length
def staticOk (ops : List Oper) (is : List Info) (effs : List (Nat × Nat)) : Bool :=
  distinct (ops.map (·.dst)) &&
  allReads ops is ops 0 &&
  (ops.all fun o => match o.guard with | some (j, _) => o.after.toList.any (fun e => bindsB e && Nat.beq e.on j) | none => true) &&
  (is.all fun i => i.al || ((effs.take (loOf effs i.mask)).all (fun e => i.mask.testBit e.1) && (!i.eff || Nat.beq (loOf effs i.mask) i.idx)))
def static (P : Program) (ops : List Oper) : Option (List Info × List (Nat × Nat)) :=
  (masks ops []).ob fun ms => let is := infos P ops ms.reverse 0
    let effs := effMasks is 0
    bif staticOk ops is effs then some (is, effs) else none
def dPass (P : Program) (rec : Rec) (ops : List Oper) (n : Nat) : List Oper → List Info → T Value → ASt → Option (List (T Value × Value) × List ASt × T Value)
  | o :: r, i :: is, S, H =>
    (bif wantedA ops o S then xop P rec S H o else some (undef, H)).ob fun p => (dPass P rec ops n r is (putS S n o.dst p.1) p.2).ob fun q => some ((S, p.1) :: q.1, (bif i.eff then H :: q.2.1 else q.2.1), q.2.2)
  | _, _, S, H => some ([], [H], S)
/-- Are two values one? (It may say no too often.) -/
def veq : Nat → Value → Value → Bool
  | _, .bool a, .bool b => bif a then b else !b
  | _, .int k a, .int k' b => kindEq k k' && intEq a b
  | _, .string a, .string b => bytesEq a.data.toList b.data.toList
  | _, .pointer none, .pointer none => true
  | _, .pointer (some ⟨b, o, none⟩), .pointer (some ⟨b', o', none⟩) => Nat.beq b b' && Nat.beq o o'
  | _, .slice none m c, .slice none m' c' => Nat.beq m m' && Nat.beq c c'
  | _, .slice (some ⟨b, o, none⟩) m c, .slice (some ⟨b', o', none⟩) m' c' => Nat.beq b b' && (Nat.beq o o' && (Nat.beq m m' && Nat.beq c c'))
  | _, .map none, .map none => true
  | _, .map (some a), .map (some b) => Nat.beq a b
  | _, .nilFunc, .nilFunc => true
  | _, .nilIface, .nilIface => true
  | f + 1, .agg a, .agg b => all2 f a.toList b.toList
  | f + 1, .tuple a, .tuple b => all2 f a.toList b.toList
  | _, .func (.yield l) ⟨[]⟩ ⟨[]⟩, .func (.yield l') ⟨[]⟩ ⟨[]⟩ => Nat.beq l l'
  | f + 1, .func (.func g) a c, .func (.func g') a' c' => Nat.beq g g' && (all2 f a.toList a'.toList && all2 f c.toList c'.toList)
  | _, _, _ => false
where all2 (f : Nat) : List Value → List Value → Bool
  | [], [] => true
  | a :: x, b :: y => veq f a b && all2 f x y
  | _, _ => false
def isVal (v : Value) : XRes → Bool
  | some (.val u, _) => veq 9 u v
  | _ => false
def dCheck (P : Program) (ops : List Oper) (effs : List (Nat × Nat)) (Hs : List ASt) : List Oper → List Info → List (T Value × Value) → Nat → Bool
  | o :: r, i :: is, (S, v) :: rs, k =>
    (i.eff || !wantedA ops o S || ((Hs.drop (loOf effs i.mask)).take (hiOf effs k - loOf effs i.mask + 1)).all fun H => isVal v (aexec P S H o)) && dCheck P ops effs Hs r is rs (k + 1)
  | _, _, _, _ => true
def drawn (P : Program) (rec : Rec) (ops : List Oper) (n : Nat) (S : T Value) (H : ASt) : Option (T Value × ASt) :=
  (static P ops).ob fun st => (dPass P rec ops n ops st.1 S H).ob fun q =>
    bif dCheck P ops st.2 q.2.1 ops st.1 q.1 0 then (q.2.1.getLast?).ob fun H' => some (q.2.2, H') else none

def isBusy : LoopState → Bool
  | .busy => true
  | _ => false
def isReady : LoopState → Bool
  | .ready => true
  | _ => false
def takeMarks : List Nat → ASt → Option ASt
  | [], H => some H
  | d :: r, H => match H.heap.get d with
    | some (.obj (.deferred true)) => takeMarks r (aobj H d (.deferred false))
    | _ => none
def resultOf (P : Program) (S : T Value) (H : ASt) : ResultVar → Option Value
  | .tmp t => some (getS S t)
  | .cell a t => aloadAt P t (getS S a) H
def resultsOf (P : Program) (S : T Value) (H : ASt) : List ResultVar → Option (List Value)
  | [] => some []
  | x :: r => (resultOf P S H x).ob fun v => (resultsOf P S H r).ob fun l => some (v :: l)
def oneOrMore : List Value → Value
  | [v] => v
  | l => .tuple l.toArray
def setAll : List Tmp → List Value → Nat → T Value → T Value
  | p :: ps, v :: vs, n, S => setAll ps vs n (putS S n (some p) v)
  | _, _, _, S => S
/-- Functions that are told by laws of their own. -/
abbrev Outer := FuncId → Option (List Value → ASt → VRes)
/-- The arms of a statement. -/
abbrev CArm := Program → Rec → Option Nat → St → CodeR
def withH (st : St) (p : T Value × ASt) : St := ⟨p.1, st.n, st.D, p.2⟩
def cEnd (e : AEx) : CArm := fun _ _ _ st => some (e, st)
def cNone : CArm := fun _ _ _ _ => none
def cRegion (ops : Array Oper) (d : Bool) : CArm := fun P rec _ st =>
  (bif d then drawn P rec ops.toList st.n st.S st.H else runOps P rec ops.toList st.n ops.toList st.S st.H).ob fun p => some (.normal, withH st p)
def goOn (k : St → CodeR) : AEx × St → CodeR := fun p => AEx.casesOn (motive := fun _ => CodeR) p.1 (k p.2) (fun _ => some p) (fun _ => some p) (some p)
def cSeq (a b : Code) : CArm := fun _ rec rd st => (rec.code rd a st).ob (goOn (rec.code rd b))
def condV (rec : Rec) (rd : Option Nat) (a b : Code) (st : St) : Value → CodeR
  | .bool t => rec.code rd (bif t then a else b) st
  | _ => none
def cCond (x : Operand) (a b : Code) : CArm := fun _ rec rd st => (opval st.S x).ob (condV rec rd a b st)
def outOf (id : Nat) : AEx × St → CodeR := fun p => AEx.casesOn (motive := fun _ => CodeR) p.1 (some p) (fun j => bif Nat.beq j id then some (.normal, p.2) else some p) (fun _ => some p) (some p)
def cBlock (id : Nat) (b : Code) : CArm := fun _ rec rd st => (rec.code rd b st).ob (outOf id)
def noGoto : AEx × St → CodeR := fun p => AEx.casesOn (motive := fun _ => CodeR) p.1 (some p) (fun _ => some p) (fun _ => none) (some p)
def cScope (b : Code) : CArm := fun _ rec rd st => T.bi rd.isNone ((rec.code none b st).ob noGoto) none
def cLoop (b : Code) : CArm := fun _ rec rd st => (rec.code rd b st).ob (goOn (rec.code rd (.loop b)))
/-- The block for deferred calls, the mark, the world ahead of the loop's record. -/
def loopBook (H : ASt) : Option Nat → Option (Nat × List Nat × ASt)
  | none => (anewObj H (.deferred true)).ob fun H1 => some (H.next, [H.next], H1)
  | some l0 => (match H.heap.get l0 with
    | some (.obj (.loop _ _ _ _ _ _ _ d)) => some (d, [], H)
    | _ => none)
def iterOf : Value → Option (FuncId × List Value × List Value)
  | .func (.func f) first cap => some (f, first.toList, cap.toList)
  | _ => none
def afterLoop (rec : Rec) (rd : Option Nat) (st : St) : Option Code → CodeR
  | none => some (.normal, st)
  | some c => rec.code rd c st
def endLoopA (rec : Rec) (rd : Option Nat) (st : St) (mk : List Nat) (l : Nat) (H3 : ASt) : Option AO → CodeR
  | some (.obj (.loop ls pend S n ps asg body d)) => bif isBusy ls then none else afterLoop rec rd ⟨st.S, st.n, mk ++ st.D, aobj H3 l (.loop .exhausted pend S n ps asg body d)⟩ pend
  | _ => none
def cRange (g : Operand) (ps : Array Tmp) (asg body : Code) : CArm := fun _ rec rd st =>
  (loopBook st.H rd).ob fun q => (anewObj q.2.2 (.loop .ready none st.S st.n ps.toList asg body q.1)).ob fun H2 => (opval st.S g).ob fun v => (iterOf v).ob fun it =>
    (rec.call it.1 (it.2.1 ++ (.func (.yield q.2.2.next) #[] #[] :: it.2.2)) H2).ob fun r => endLoopA rec rd st q.2.1 q.2.2.next r.2 (r.2.heap.get q.2.2.next)
def codeArm : Code → CArm := @Code.rec (fun _ => CArm)
  (cEnd .normal) (fun _ ops d => cRegion ops d) (fun a b _ _ => cSeq a b) (fun x a b _ _ => cCond x a b) (fun id b _ => cBlock id b) (fun b _ => cLoop b) (fun g ps a b _ _ => cRange g ps a b) (fun id => cEnd (.exit id)) (fun b _ => cScope b) (fun _ => cEnd .normal) (fun _ => cNone) (cEnd .ret) (fun _ => cNone)
def stepCode (P : Program) (rec : Rec) (rd : Option Nat) (c : Code) (st : St) : CodeR := codeArm c P rec rd st
def resultIn (P : Program) (fn : Func) (st : St) : VRes := (takeMarks st.D st.H).ob fun H' => (resultsOf P st.S H' fn.results.toList).ob fun l => some (oneOrMore l, H')
def leaveFn (P : Program) (fn : Func) : AEx × St → VRes := fun p => AEx.casesOn (motive := fun _ => VRes) p.1 (resultIn P fn p.2) (fun _ => none) (fun _ => none) (resultIn P fn p.2)
def enterFn (P : Program) (rec : Rec) (args : List Value) (H : ASt) (fn : Func) (c : Code) : VRes :=
  (rec.code none c ⟨T.ofL args, Nat.add args.length (Nat.sub fn.ntmps args.length), [], H⟩).ob (leaveFn P fn)
def notNG (fn : Func) : Bool := !(fn.name == "runtime.NumGoroutine")
def stepFn (P : Program) (rec : Rec) (args : List Value) (H : ASt) (fn : Func) : VRes := bif notNG fn && Nat.blt (Nat.add args.length fn.ntmps) 1000000 then fn.body.ob (enterFn P rec args H fn) else none
def stepCall (P : Program) (ext : Outer) (rec : Rec) (f : FuncId) (args : List Value) (H : ASt) : VRes :=
  match ext f with
  | some g => g args H
  | none => (P.funcs[f]?).ob (stepFn P rec args H)
def codeOf : AEx → Option Code
  | .normal => none
  | .exit id => some (.exit id)
  | .goto l => some (.goto l)
  | .ret => some .ret
def endRoundA (H : ASt) (l : Nat) (j : Option Code) (D : List Nat) : Option AO → VRes
  | some (.obj (.loop ls pend S n ps asg body d)) => bif D.isEmpty then some (.bool j.isNone, aobj H l (.loop (bif j.isNone then .ready else .done) j S n ps asg body d)) else none
  | _ => none
def roundEnd (l : Nat) : AEx × St → VRes := fun p => endRoundA p.2.H l (codeOf p.1) p.2.D (p.2.H.heap.get l)
def roundBody (rec : Rec) (l : Nat) (bd : Code) (st : St) : Option AO → VRes
  | some (.obj (.loop ls pend S n ps asg body d)) => bif isReady ls && st.D.isEmpty then (rec.code (some l) bd ⟨st.S, st.n, [], aobj st.H l (.loop .busy pend S n ps asg body d)⟩).ob (roundEnd l) else none
  | _ => none
def roundMid (rec : Rec) (l : Nat) (bd : Code) : AEx × St → VRes := fun p => AEx.casesOn (motive := fun _ => VRes) p.1 (roundBody rec l bd p.2 (p.2.H.heap.get l)) (fun _ => none) (fun _ => none) none
def roundIn (rec : Rec) (l : Nat) (args : List Value) (H : ASt) : Option AO → VRes
  | some (.obj (.loop _ _ S n ps asg body _)) => bif Nat.beq ps.length args.length && Nat.blt n 1000000000000 then (rec.code (some l) asg ⟨setAll ps args n S, n, [], H⟩).ob (roundMid rec l body) else none
  | _ => none
def stepRound (rec : Rec) (l : Nat) (args : List Value) (H : ASt) : VRes := roundIn rec l args H (H.heap.get l)
def noRec : Rec := { code := fun _ _ _ => none, call := fun _ _ _ => none, round := fun _ _ _ => none }
def stepRec (P : Program) (ext : Outer) (rec : Rec) : Rec := { code := stepCode P rec, call := stepCall P ext rec, round := stepRound rec }
/-- THE EVALUATOR. -/
def ev (P : Program) (ext : Outer) (n : Nat) : Rec := Nat.rec (motive := fun _ => Rec) noRec (fun _ r => stepRec P ext r) n
end
end Go.Proofs.YtgdlpgakhhebeaaGreatDoor.Ev
