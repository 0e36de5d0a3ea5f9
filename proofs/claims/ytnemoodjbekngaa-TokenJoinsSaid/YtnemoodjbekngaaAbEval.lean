/-
  The abstract machine: a deterministic run of the model's own code over an abstract memory. Definitions alone.
-/
import Derived.Test.YtnemoodjbekngaaAbHeap
namespace Go.Ab

/-- What an operation that does not touch the world comes to. -/
def still {α : Type} (P : Program) : Sem α → Option α
  | .pure a => some a
  | .program k => still P (k P)
  | .mark _ k => still P k
  | _ => none

def Fr.eval (f : Fr) : Operand → Value
  | .tmp t => f.get t
  | .const v => v
  | .global g => .pointer (some ⟨g, 0, none⟩)
  | .func f => .func (.func f) #[] #[]

inductive ARes where
  | val (v : Value) (H : Heap)
  | call (f : FuncId) (args : Array Value)

def zeroOf (P : Program) (t : TypeId) : Option (List Value) := (P.info? t).bind fun i => i.zero.bind fun z => bif flat z then some z.cells.toList else none
def sizeAt (P : Program) (t : TypeId) : Option Nat := (P.info? t).map (·.size)
def aggAt (P : Program) (t : TypeId) : Option Bool :=
  match P.underlying t with
  | some (.struct _) => some true
  | some (.array _ _) => some true
  | some _ => some false
  | none => none
def elemAt (P : Program) (t : TypeId) : Option TypeId := match P.underlying t with | some (.slice e) => some e | _ => none

def readN (H : Heap) (b o n : Nat) : Option (List Value) :=
  match H.get b with
  | some (.row _ c) => bif Nat.ble (o + n) c.length then some ((c.drop o).take n) else none
  | _ => none
def read1 (H : Heap) (b o : Nat) : Option Value :=
  match H.get b with
  | some (.row _ c) => c[o]?
  | _ => none
def write (H : Heap) (b o : Nat) (vs : List Value) : Option Heap :=
  match H.get b with
  | some (.row (.rw sz) c) => bif Nat.ble (o + vs.length) c.length && vs.all (·.oneCell') then some (H.put b (some (.row (.rw sz) (splice c o vs)))) else none
  | _ => none
def ptrTo (H : Heap) : Value := .pointer (some ⟨H.n, 0, none⟩)

/-- A part of a struct or an array. -/
def partAt (P : Program) (t : TypeId) (cs : Array Value) (off : Nat) : Option Value :=
  match aggAt P t, sizeAt P t with
  | some true, some n => some (.agg (cs.extract off (off + n)))
  | some false, _ => cs[off]?
  | _, _ => none

def loadA (P : Program) (t : TypeId) (x : Value) (H : Heap) : Option Value :=
  match x with
  | .pointer (some ⟨b, o, none⟩) =>
    match aggAt P t with
    | some true => match sizeAt P t with
      | some n => (readN H b o n).map fun l => .agg l.toArray
      | none => none
    | some false => read1 H b o
    | none => none
  | _ => none
def storeA (P : Program) (t : TypeId) (x v : Value) (H : Heap) : Option Heap :=
  match x, sizeAt P t with
  | .pointer (some ⟨b, o, none⟩), some n => bif Nat.beq v.cells.size n then write H b o v.cells.toList else none
  | _, _ => none
def nilCheckA : Value → Option Value
  | .pointer (some a) => some (.pointer (some a))
  | .func (.func f) a b => some (.func (.func f) a b)
  | .iface t v => some (.iface t v)
  | _ => none
def fieldAddrA (P : Program) (s : TypeId) (x : Value) (f : Nat) : Option Value :=
  match P.underlying s, x with
  | some (.struct fields), .pointer (some ⟨b, o, none⟩) =>
    match fields[f]? with
    | some fl => match sizeAt P fl.type with
      | some (_ + 1) => some (.pointer (some ⟨b, o + fl.offset, none⟩))
      | _ => none
    | none => none
  | _, _ => none
def indexAddrA (P : Program) (t : TypeId) (x i : Value) : Option Value :=
  match i with
  | .int _ i =>
    match P.underlying t, x with
    | some (.slice e), .slice (some ⟨b, o, none⟩) len _ =>
      match sizeAt P e with
      | some n => if 0 ≤ i ∧ i < len then some (.pointer (some ⟨b, o + i.toNat * n, none⟩)) else none
      | none => none
    | some (.array len e), .pointer (some ⟨b, o, none⟩) =>
      match sizeAt P e with
      | some n => if 0 ≤ i ∧ i < len then some (.pointer (some ⟨b, o + i.toNat * n, none⟩)) else none
      | none => none
    | _, _ => none
  | _ => none
def indexA (P : Program) (t : TypeId) (x i : Value) : Option Value :=
  match i, P.underlying t, x with
  | .int _ i, some (.array len e), .agg cs =>
    match sizeAt P e with
    | some n => if 0 ≤ i ∧ i < len then partAt P e cs (i.toNat * n) else none
    | none => none
  | _, _, _ => none
def fieldA (P : Program) (t : TypeId) (x : Value) (f : Nat) : Option Value :=
  match P.underlying t, x with
  | some (.struct fields), .agg cs => match fields[f]? with
    | some fl => partAt P fl.type cs fl.offset
    | none => none
  | _, _ => none

/-- The bounds of a cut: of low, high, max as they stand, at a length and a capacity. -/
def boundA (x : Value) (y : Nat) : Option Nat :=
  match x with
  | .int _ i => if 0 ≤ i ∧ i ≤ y then some i.toNat else none
  | _ => none
def boundsA (len cap : Nat) (low high max : Option Value) : Option (Nat × Nat × Nat) :=
  match (match max with | some v => boundA v cap | none => some cap) with
  | none => none
  | some m =>
    match (match high with | some v => boundA v m | none => (match max with | none => some len | some _ => none)) with
    | none => none
    | some h =>
      match (match low with | some v => boundA v h | none => some 0) with
      | none => none
      | some l => some (l, h, m)
/-- A row whose slices have elements of so many cells. -/
def boxRow (H : Heap) (b : Nat) : Bool :=
  match H.get b with
  | some (.row k _) => Nat.beq k.sz 0
  | _ => false
def fitsRow (H : Heap) (b s : Nat) : Bool :=
  match H.get b with
  | some (.row k _) => Nat.beq k.sz 0 || Nat.beq k.sz s
  | _ => false
/-- A slice cut. 'c': the capacity's code. -/
def sliceA (P : Program) (t : TypeId) (x : Value) (low high max : Option Value) (H : Heap) : Option Value :=
  match P.underlying t, x with
  | some (.array n e), .pointer (some ⟨b, o, none⟩) =>
    match sizeAt P e, boundsA n n low high max with
    | some s, some (l, h, m) => bif boxRow H b then some (.slice (some (if m = l then ⟨b, o, none⟩ else ⟨b, o + l * s, none⟩)) (h - l) (2 * (m - l) + 1)) else none
    | _, _ => none
  | some (.slice e), .slice none 0 0 =>
    match sizeAt P e, boundsA 0 0 low high max with
    | some _, some _ => some (.slice none 0 0)
    | _, _ => none
  | some (.slice e), .slice (some ⟨b, o, none⟩) len c =>
    match sizeAt P e, boundsA len (c / 2) low high max with
    | some s, some (l, h, m) =>
      if c = 0 then some (.slice (some ⟨b, o, none⟩) 0 0)
      else if fitsRow H b s = false then none
      else if c % 2 = 1 ∨ max.isSome then some (.slice (some (if m = l then ⟨b, o, none⟩ else ⟨b, o + l * s, none⟩)) (h - l) (2 * (m - l) + 1))
      else if m = l then some (.slice (some ⟨b, o, none⟩) 0 0)
      else some (.slice (some ⟨b, o + l * s, none⟩) (h - l) (2 * (m - l)))
    | _, _ => none
  | _, _ => none

/-- Parts laid into cells. -/
def fillA (place : Nat → Option (Nat × Nat)) (cells : List Value) : List (Nat × Value) → Option (List Value)
  | [] => some cells
  | (i, v) :: rest =>
    match place i with
    | none => none
    | some (off, size) =>
      bif Nat.beq v.cells.size size && Nat.ble (off + v.cells.size) cells.length then fillA place (splice cells off v.cells.toList) rest else none
def placesA (P : Program) : List Field → Option (List (Nat × Nat))
  | [] => some []
  | f :: fs => match sizeAt P f.type, placesA P fs with
    | some n, some r => some ((f.offset, n) :: r)
    | _, _ => none
def buildA (P : Program) (t : TypeId) (parts : List (Nat × Value)) : Option Value :=
  match zeroOf P t, P.underlying t with
  | some z, some (.struct fields) =>
    match placesA P fields.toList with
    | some ps => (fillA (ps[·]?) z parts).map fun l => .agg l.toArray
    | none => none
  | some z, some (.array _ e) =>
    match sizeAt P e with
    | some n => (fillA (fun i => some (i * n, n)) z parts).map fun l => .agg l.toArray
    | none => none
  | _, _ => none
/-- So many zero values. -/
def zerosA (z : List Value) (n : Nat) : List Value := (List.replicate n z).flatten
def buildSliceA (P : Program) (t : TypeId) (len : Nat) (parts : List (Nat × Value)) (H : Heap) : Option (Value × Heap) :=
  match elemAt P t with
  | some e =>
    match sizeAt P e, zeroOf P e with
    | some n, some z =>
      bif Nat.beq z.length n && Nat.ble (len * n) 16777216 then
        (fillA (fun i => some (i * n, n)) (zerosA z len) parts).map fun l => (.slice (some ⟨H.n, 0, none⟩) len (2 * len + 1), H.push (.row (.rw n) l))
      else none
    | _, _ => none
  | none => none
def makeSliceA (P : Program) (t : TypeId) (l c : Value) (H : Heap) : Option (Value × Heap) :=
  match elemAt P t, l, c with
  | some e, .int _ l, .int _ c =>
    match P.info? e, zeroOf P e with
    | some i, some z =>
      if z.length = i.size ∧ 0 ≤ l ∧ l ≤ c ∧ c * i.bytes ≤ 281474976710656 ∧ c ≤ 9223372036854775807 then
        some (.slice (some ⟨H.n, 0, none⟩) l.toNat (2 * c.toNat + 1), H.push (.row (.rw i.size) (zerosA z c.toNat)))
      else none
    | _, _ => none
  | _, _, _ => none
def byteCells (s : ByteArray) : List Value := s.data.toList.map fun b => .int .u8 b.toNat
/-- What is appended, or copied: how many elements, their cells. -/
def sourceA (size : Nat) (x : Value) (H : Heap) : Option (Nat × List Value) :=
  match x with
  | .slice none 0 0 => some (0, [])
  | .slice (some _) 0 _ => some (0, [])
  | .slice (some ⟨b, o, none⟩) n _ => (readN H b o (n * size)).map fun l => (n, l)
  | .string s => bif Nat.beq size 1 then some (s.size, byteCells s) else none
  | _ => none
def appSourceA (i : TypeInfo) (z : List Value) (d : TypeDesc) (x : Value) (H : Heap) : Option (Nat × List Value) :=
  match d with
  | .int _ => match x with
    | .int _ n => if 0 ≤ n ∧ n * i.bytes ≤ 70368744177664 ∧ n ≤ 70368744177664 ∧ z.length = i.size ∧ 0 < i.size then some (n.toNat, zerosA z n.toNat) else none
    | _ => none
  | _ => sourceA i.size x H
def appendA (P : Program) (argTypes : Array TypeId) (s x : Value) (H : Heap) : Option (Value × Heap) :=
  match argTypes[0]?.bind (elemAt P), argTypes[1]?.bind P.underlying with
  | some e, some d =>
    match P.info? e, zeroOf P e with
    | some i, some z =>
      match appSourceA i z d x H with
      | none => none
      | some (n, add) =>
        bif Nat.beq n 0 then (match s with | .slice _ _ _ => some (s, H) | _ => none) else
        bif add.all (·.oneCell') && Nat.beq z.length i.size && Nat.ble i.bytes 1048576 then
        match s with
        | .slice none 0 0 =>
          bif Nat.ble (n * i.bytes) 70368744177664 && Nat.ble n 70368744177664 then some (.slice (some ⟨H.n, 0, none⟩) n (2 * n), H.push (.row (.rw i.size) add)) else none
        | .slice (some ⟨b, o, none⟩) len c =>
          match H.get b with
          | some (.row k cells) =>
            bif Nat.ble ((len + n) * i.bytes) 70368744177664 && Nat.ble (len + n) 70368744177664 && Nat.ble (o + len * i.size) cells.length then
              let old := (cells.drop o).take (len * i.size)
              if c % 2 = 1 ∧ c / 2 < len + n then some (.slice (some ⟨H.n, 0, none⟩) (len + n) (2 * (len + n)), H.push (.row (.rw i.size) (old ++ add)))
              else if k = .rw i.size ∧ c ≠ 0 ∧ i.size ≠ 0 then
                (if c % 2 = 1 then some (.slice (some ⟨H.n, 0, none⟩) (len + n) c, (H.put b none).push (.row (.rw i.size) (old ++ add)))
                 else some (.slice (some ⟨H.n, 0, none⟩) (len + n) (2 * (len + n)), (H.put b none).push (.row (.rw i.size) (old ++ add))))
              else none
            else none
          | _ => none
        | _ => none
        else none
    | _, _ => none
  | _, _ => none
def copyA (P : Program) (argTypes : Array TypeId) (d x : Value) (H : Heap) : Option (Value × Heap) :=
  match argTypes[0]?.bind (elemAt P) with
  | some e =>
    match sizeAt P e with
    | some size =>
      match sourceA size x H, d with
      | some (n, cells), .slice base len _ =>
        bif Nat.beq (Nat.min n len) 0 then some (.int .i64 0, H) else
        match base with
        | some ⟨b, o, none⟩ => (write H b o (cells.take (Nat.min n len * size))).map fun H => (.int .i64 (Nat.min n len : Nat), H)
        | _ => none
      | _, _ => none
    | none => none
  | none => none
def clearA (P : Program) (argTypes : Array TypeId) (x : Value) (H : Heap) : Option (Value × Heap) :=
  match argTypes[0]?.bind (elemAt P), x with
  | some _, .slice none _ _ => some (.tuple #[], H)
  | some _, .slice _ 0 _ => some (.tuple #[], H)
  | some e, .slice (some ⟨b, o, none⟩) n _ =>
    match sizeAt P e, zeroOf P e with
    | some size, some z => bif Nat.beq z.length size then (write H b o (zerosA z n)).map fun H => (.tuple #[], H) else none
    | _, _ => none
  | _, _ => none
def lenA (P : Program) (argTypes : Array TypeId) (x : Value) (H : Heap) : Option Value :=
  match argTypes[0]?.bind P.underlying, x with
  | some .string, .string s => some (.int .i64 s.size)
  | some (.slice _), .slice _ n _ => some (.int .i64 n)
  | some (.map _ _), .map none => some (.int .i64 0)
  | some (.map _ _), .map (some r) => match H.get r with
    | some (.map es _) => some (.int .i64 es.length)
    | _ => none
  | _, _ => none
def bytesStr : List Value → Option (List UInt8)
  | [] => some []
  | .int .u8 n :: r => (bytesStr r).map (UInt8.ofNat n.toNat :: ·)
  | _ => none
def convertA (P : Program) (src dst : TypeId) (x : Value) (H : Heap) : Option (Value × Heap) :=
  match P.underlying src, P.underlying dst, x with
  | some .string, some (.slice e), .string s =>
    match P.underlying e with
    | some (.int .u8) => some (.slice (some ⟨H.n, 0, none⟩) s.size (2 * s.size), H.push (.row (.rw 1) (byteCells s)))
    | _ => none
  | some (.slice e), some .string, .slice none 0 0 =>
    match P.underlying e with
    | some (.int .u8) => some (.string ⟨#[]⟩, H)
    | _ => none
  | some (.slice e), some .string, .slice (some _) 0 _ =>
    match P.underlying e with
    | some (.int .u8) => some (.string ⟨#[]⟩, H)
    | _ => none
  | some (.slice e), some .string, .slice (some ⟨b, o, none⟩) n _ =>
    match P.underlying e with
    | some (.int .u8) => ((readN H b o n).bind bytesStr).map fun l => (.string ⟨l.toArray⟩, H)
    | _ => none
  | _, _, _ => none
/-! Texts: by their lists of bytes. -/
def catB (a b : ByteArray) : ByteArray := ⟨⟨a.data.toList ++ b.data.toList⟩⟩
def subB (s : ByteArray) (l h : Nat) : ByteArray := ⟨⟨(s.data.toList.drop l).take (h - l)⟩⟩
def eqL : List UInt8 → List UInt8 → Bool
  | [], [] => true
  | a :: x, b :: y => Nat.beq a.toNat b.toNat && eqL x y
  | _, _ => false
def ltL : List UInt8 → List UInt8 → Bool
  | _, [] => false
  | [], _ :: _ => true
  | a :: x, b :: y => Nat.blt a.toNat b.toNat || (Nat.beq a.toNat b.toNat && ltL x y)
def strA (op : BinOp) (x y : Value) : Option Value :=
  match x, y with
  | .string a, .string b =>
    match op with
    | .add => if ((a.size + b.size : Nat) : Int) ≤ 9223372036854775807 then some (.string (catB a b)) else none
    | .eql => some (.bool (eqL a.data.toList b.data.toList))
    | .neq => some (.bool !(eqL a.data.toList b.data.toList))
    | .lss => some (.bool (ltL a.data.toList b.data.toList))
    | .leq => some (.bool (ltL a.data.toList b.data.toList || eqL a.data.toList b.data.toList))
    | .gtr => some (.bool !(ltL a.data.toList b.data.toList || eqL a.data.toList b.data.toList))
    | .geq => some (.bool !(ltL a.data.toList b.data.toList))
    | _ => none
  | _, _ => none
def strIndexA (P : Program) (t : TypeId) (x i : Value) : Option Value :=
  match i, P.underlying t, x with
  | .int _ i, some .string, .string s => if 0 ≤ i then s.data.toList[i.toNat]?.map fun b => .int .u8 b.toNat else none
  | _, _, _ => none
def strSliceA (P : Program) (t : TypeId) (x : Value) (low high max : Option Value) : Option Value :=
  match P.underlying t, x, max with
  | some .string, .string s, none =>
    match boundsA s.size s.size low high none with
    | some (l, h, _) => some (.string (subB s l h))
    | none => none
  | _, _, _ => none
/-- What 'x == nil' comes to, one side nil. -/
def eqNil (P : Program) (t : TypeId) (x y : Value) : Option Bool :=
  match P.underlying t, x, y with
  | some (.pointer _), .pointer none, .pointer b => some b.isNone
  | some (.pointer _), .pointer (some _), .pointer none => some false
  | some (.slice _), .slice none _ _, .slice b _ _ => some b.isNone
  | some (.slice _), .slice (some _) _ _, .slice none _ _ => some false
  | some (.map _ _), .map none, .map b => some b.isNone
  | some (.map _ _), .map (some _), .map none => some false
  | some (.func _ _ _), .nilFunc, .func _ _ _ => some false
  | some (.func _ _ _), .func _ _ _, .nilFunc => some false
  | some (.interface _), .nilIface, .iface _ _ => some false
  | some (.interface _), .iface _ _, .nilIface => some false
  | _, _, _ => none
def methodA (P : Program) (t : TypeId) (name : String) : Option FuncId :=
  match P.info? t with
  | some i => match i.methods.find? (·.name == name) with
    | some m => bif m.path.isEmpty then (match m.func, P.underlying t with
      | some (f, true), some (.pointer _) => some f
      | some (_, false), some (.pointer _) => none
      | some (f, false), some _ => some f
      | _, _ => none) else none
    | none => none
  | none => none
def assertA (P : Program) (x : Value) (asserted : TypeId) (commaOk : Bool) : Option Value :=
  match P.underlying asserted, x with
  | some (.interface _), _ => none
  | some _, .iface t v => if t = asserted then some (if commaOk then .tuple #[v, .bool true] else v) else none
  | _, _ => none
def hasBody (P : Program) (f : FuncId) : Bool := (P.funcs[f]?).any (·.body.isSome)

/-- An operation whose operands hold no address, and that does not touch the world. -/
def evalFlat (P : Program) (ρ : Operand → Value) (o : Oper) (H : Heap) : Option ARes :=
  bif o.op.operands.toList.all (fun x => flat (ρ x)) then
    match still P (execOp ρ o) with
    | some (.value v) => bif flat v then some (.val v H) else none
    | _ => none
  else none
def orFlat (P : Program) (ρ : Operand → Value) (o : Oper) (H : Heap) (r : Option (Value × Heap)) : Option ARes :=
  match r with
  | some (v, H) => some (.val v H)
  | none => evalFlat P ρ o H
def pureOr (P : Program) (ρ : Operand → Value) (o : Oper) (H : Heap) (r : Option Value) : Option ARes :=
  match r with
  | some v => some (.val v H)
  | none => evalFlat P ρ o H

def evalOp (P : Program) (ρ : Operand → Value) (o : Oper) (H : Heap) : Option ARes :=
  match o.op with
  | .move x => some (.val (ρ x) H)
  | .assign x => some (.val (ρ x) H)
  | .pick c a b => match ρ c with
    | .bool t => some (.val (bif t then ρ a else ρ b) H)
    | _ => none
  | .alloc t => (zeroOf P t).map fun z => .val (ptrTo H) (H.push (.row (.rw 0) z))
  | .box _ x => some (.val (ptrTo H) (H.push (.row (.rw 0) (ρ x).cells.toList)))
  | .build t parts => (buildA P t (parts.toList.map fun (i, x) => (i, ρ x))).map fun v => .val v H
  | .buildSlice t len parts => (buildSliceA P t len (parts.toList.map fun (i, x) => (i, ρ x)) H).map fun (v, H) => .val v H
  | .load t a => (loadA P t (ρ a) H).map fun v => .val v H
  | .store t a x => (storeA P t (ρ a) (ρ x) H).map fun H => .val undef H
  | .nilCheck x => (nilCheckA (ρ x)).map fun v => .val v H
  | .binOp op t x y _ =>
    match strA op (ρ x) (ρ y) with
    | some v => some (.val v H)
    | none => match op with
      | .eql => pureOr P ρ o H ((eqNil P t (ρ x) (ρ y)).map .bool)
      | .neq => pureOr P ρ o H ((eqNil P t (ρ x) (ρ y)).map fun b => .bool !b)
      | _ => evalFlat P ρ o H
  | .convert src dst x => orFlat P ρ o H (convertA P src dst (ρ x) H)
  | .makeInterface t x => match P.underlying t with
    | some (.interface _) => none
    | some _ => some (.val (.iface t (ρ x)) H)
    | none => none
  | .makeFunc fn first captured => some (.val (.func fn (first.map ρ) (captured.map ρ)) H)
  | .makeSlice t l c => (makeSliceA P t (ρ l) (ρ c) H).map fun (v, H) => .val v H
  | .slice t x lo hi mx => match strSliceA P t (ρ x) (lo.map ρ) (hi.map ρ) (mx.map ρ) with
    | some v => some (.val v H)
    | none => (sliceA P t (ρ x) (lo.map ρ) (hi.map ρ) (mx.map ρ) H).map fun v => .val v H
  | .fieldAddr s x f => (fieldAddrA P s (ρ x) f).map fun v => .val v H
  | .field t x f => (fieldA P t (ρ x) f).map fun v => .val v H
  | .indexAddr t x i => (indexAddrA P t (ρ x) (ρ i)).map fun v => .val v H
  | .index t x i => match strIndexA P t (ρ x) (ρ i) with
    | some v => some (.val v H)
    | none => (indexA P t (ρ x) (ρ i)).map fun v => .val v H
  | .typeAssert x _ t ok => pureOr P ρ o H (assertA P (ρ x) t ok)
  | .extract t i => match ρ t with
    | .tuple vs => vs[i]?.map fun v => .val v H
    | _ => none
  | .call c =>
    match c.callee with
    | .value f =>
      match ρ f with
      | .func (.func g) first captured => bif hasBody P g then some (.call g (first ++ c.args.map ρ ++ captured)) else evalFlat P ρ o H
      | _ => none
    | .invoke r name =>
      match ρ r with
      | .iface t v => match methodA P t name with
        | some f => bif hasBody P f then some (.call f (#[v] ++ c.args.map ρ)) else none
        | none => none
      | _ => none
    | .builtin .append => match c.args[0]?, c.args[1]? with
      | some s, some x => (appendA P c.argTypes (ρ s) (ρ x) H).map fun (v, H) => .val v H
      | _, _ => none
    | .builtin .copy => match c.args[0]?, c.args[1]? with
      | some d, some x => (copyA P c.argTypes (ρ d) (ρ x) H).map fun (v, H) => .val v H
      | _, _ => none
    | .builtin .clear => match c.args[0]? with
      | some x => (clearA P c.argTypes (ρ x) H).map fun (v, H) => .val v H
      | none => none
    | .builtin .len => match c.args[0]? with
      | some x => (lenA P c.argTypes (ρ x) H).map fun v => .val v H
      | none => none
    | .builtin _ => evalFlat P ρ o H
  | .unOp _ _ _ => evalFlat P ρ o H
  | _ => none

/-! ### Regions, code, calls -/
abbrev CallF := FuncId → Array Value → Heap → Option (Value × Heap)

def yieldedA (ops : Array Oper) (fr : Fr) (j : Nat) : Option Bool :=
  match (ops[j]?).bind (·.dst) with
  | some t => match fr.get t with
    | .bool b => some b
    | _ => none
  | none => none
def stepOp (P : Program) (call : CallF) (fr : Fr) (o : Oper) (H : Heap) : Option (Value × Heap) :=
  match evalOp P fr.eval o H with
  | some (.val v H) => some (v, H)
  | some (.call f args) => call f args H
  | none => none
def runOps (P : Program) (call : CallF) (ops : Array Oper) : List Oper → Fr → Heap → Option (Fr × Heap)
  | [], fr, H => some (fr, H)
  | o :: rest, fr, H =>
    bif Region.wanted o (yieldedA ops fr) then
      match stepOp P call fr o H with
      | some (v, H) => runOps P call ops rest (fr.put o.dst v) H
      | none => none
    else runOps P call ops rest (fr.put o.dst undef) H

/-! A region that draws its order: run in the order of the text, held against every other order. -/
mutual
def valEq : Value → Value → Bool
  | .bool a, .bool b => a == b
  | .int j a, .int k b => decide (j = k) && decide (a = b)
  | .float j a, .float k b => decide (j = k) && Nat.beq a b
  | .complex j a c, .complex k b d => decide (j = k) && Nat.beq a b && Nat.beq c d
  | .chan a, .chan b => decide (a = b)
  | .string a, .string b => eqL a.data.toList b.data.toList
  | .pointer a, .pointer b => decide (a = b)
  | .slice a l c, .slice b m d => decide (a = b) && Nat.beq l m && Nat.beq c d
  | .map a, .map b => decide (a = b)
  | .nilFunc, .nilFunc => true
  | .nilIface, .nilIface => true
  | .func f ⟨a⟩ ⟨b⟩, .func g ⟨c⟩ ⟨d⟩ => decide (f = g) && valEqL a c && valEqL b d
  | .iface t v, .iface u w => Nat.beq t u && valEq v w
  | .agg ⟨a⟩, .agg ⟨b⟩ => valEqL a b
  | .tuple ⟨a⟩, .tuple ⟨b⟩ => valEqL a b
  | _, _ => false
def valEqL : List Value → List Value → Bool
  | [], [] => true
  | a :: x, b :: y => valEq a b && valEqL x y
  | _, _ => false
end
inductive Class where
  | pure | reads | effect
  deriving DecidableEq
def isSlice (P : Program) (t : TypeId) : Bool := match P.underlying t with | some (.slice _) => true | _ => false
def classOf (P : Program) : Op → Class
  | .move _ | .assign _ | .pick .. | .build .. | .nilCheck _ | .binOp .. | .unOp .. | .makeInterface .. | .makeFunc .. | .fieldAddr .. | .field .. | .indexAddr .. | .index .. | .typeAssert .. | .extract .. => .pure
  | .load .. | .slice .. => .reads
  | .convert s d _ => bif isSlice P d then .effect else bif isSlice P s then .reads else .pure
  | .call { callee := .builtin .len, .. } => .reads
  | .call { callee := .builtin .max, .. } | .call { callee := .builtin .min, .. } => .pure
  | _ => .effect
/-- The operands and the guard of an operation of a region wait for the operation that yields them; no two yield into one slot. -/
def tmpsOf (o : Oper) : List Tmp := o.op.operands.toList.filterMap fun | .tmp t => some t | _ => none
def waitsFor (o : Oper) (j : Nat) : Bool := o.after.toList.any fun e => Region.binds .any e && Nat.beq e.on j
def depOk (o : Oper) (i : Nat) (p : Oper) (j : Nat) : Bool :=
  (match p.dst with
   | none => true
   | some t => (!(tmpsOf o).any (Nat.beq t) || (waitsFor o j && !Nat.beq i j)) && (Nat.beq i j || match o.dst with | some u => !Nat.beq t u | none => true)) &&
  (match o.guard with
   | some (k, _) => !Nat.beq k j || waitsFor o j
   | none => true)
def depsOk (ops : List Oper) : Bool :=
  ops.zipIdx.all fun x => (ops.zipIdx.all fun y => depOk x.1 x.2 y.1 y.2) && x.1.after.toList.all (fun e => !Region.binds .any e || Nat.blt e.on x.2) &&
    (match x.1.guard with | some (k, _) => Nat.blt k x.2 | none => true)
/-- Of each operation those that come up ahead of it in every order. -/
def befs (P : List Oper) : List (List Nat) :=
  P.foldl (fun acc o => acc ++ [o.after.toList.flatMap fun e => bif Region.binds .any e then e.on :: acc.getD e.on [] else []]) []
/-- The run in the order of the text: the frame, and of each operation with an effect its number and the memory behind it. -/
def textRun (P : Program) (call : CallF) (ops : Array Oper) : List Oper → Nat → Fr → Heap → Option (Fr × List (Nat × Heap))
  | [], _, fr, _ => some (fr, [])
  | o :: rest, i, fr, H =>
    bif Region.wanted o (yieldedA ops fr) then
      match stepOp P call fr o H with
      | some (v, H') =>
        match textRun P call ops rest (i + 1) (fr.put o.dst v) H' with
        | some (fr', es) => some (fr', match classOf P o.op with | .effect => (i, H') :: es | _ => es)
        | none => none
      | none => none
    else textRun P call ops rest (i + 1) (fr.put o.dst undef) H
/-- Each waits for the one ahead of it. -/
def chained (bs : List (List Nat)) : List (Nat × Heap) → Bool
  | (i, _) :: (j, H) :: r => (bs.getD j []).any (Nat.beq i) && chained bs ((j, H) :: r)
  | _ => true
/-- Operation i, that reads, yields the same in each memory in which it may come up. -/
def readsSame (P : Program) (fr : Fr) (bs : List (List Nat)) (i : Nat) (o : Oper) (H : Heap) (es : List (Nat × Heap)) : Bool :=
  (es.any (fun e => (bs.getD i []).any (Nat.beq e.1)) || (match evalOp P fr.eval o H with
    | some (.val v _) => (match o.dst with | some d => valEq v (fr.get d) | none => true)
    | _ => false)) &&
  match es with
  | [] => true
  | (e, H') :: r => (bs.getD e []).any (Nat.beq i) || readsSame P fr bs i o H' r
def runDraw (P : Program) (call : CallF) (ops : Array Oper) (fr : Fr) (H : Heap) : Option (Fr × Heap) :=
  match textRun P call ops ops.toList 0 fr H with
  | some (fr', es) =>
    let bs := befs ops.toList
    bif depsOk ops.toList && chained bs es && (ops.toList.zipIdx.all fun x => match classOf P x.1.op with
      | .reads => bif Region.wanted x.1 (yieldedA ops fr') then readsSame P fr' bs x.2 x.1 H es else true
      | _ => true) then some (fr', match es.getLast? with | some (_, H') => H' | none => H) else none
  | none => none

inductive AExit where
  | normal
  | exit (id : Nat)
  | ret

abbrev Out := Option (AExit × Fr × Heap)
def iter (body : Fr → Heap → Out) : Nat → Fr → Heap → Out
  | 0, _, _ => none
  | n + 1, fr, H => match body fr H with
    | some (.normal, fr, H) => iter body n fr H
    | r => r
def evalC (P : Program) (call : CallF) (fuel : Nat) : Code → Fr → Heap → Out
  | .skip, fr, H => some (.normal, fr, H)
  | .label _, fr, H => some (.normal, fr, H)
  | .region _ ops draw, fr, H =>
    match (bif draw then runDraw P call ops fr H else runOps P call ops ops.toList fr H) with
    | some (fr, H) => some (.normal, fr, H)
    | none => none
  | .seq a b, fr, H => match evalC P call fuel a fr H with
    | some (.normal, fr, H) => evalC P call fuel b fr H
    | r => r
  | .cond c t e, fr, H => match fr.eval c with
    | .bool b => match b with
      | true => evalC P call fuel t fr H
      | false => evalC P call fuel e fr H
    | _ => none
  | .block id c, fr, H => match evalC P call fuel c fr H with
    | some (.exit j, fr, H) => bif Nat.beq j id then some (.normal, fr, H) else some (.exit j, fr, H)
    | r => r
  | .loop c, fr, H => iter (fun fr H => evalC P call fuel c fr H) fuel fr H
  | .exit id, fr, H => some (.exit id, fr, H)
  | .ret, fr, H => some (.ret, fr, H)
  | _, _, _ => none

def resultA (P : Program) (fr : Fr) (H : Heap) : ResultVar → Option Value
  | .tmp t => some (fr.get t)
  | .cell a t => loadA P t (fr.get a) H
def resultsA (P : Program) (fr : Fr) (H : Heap) : List ResultVar → Option (List Value)
  | [] => some []
  | r :: rs => match resultA P fr H r, resultsA P fr H rs with
    | some v, some vs => some (v :: vs)
    | _, _ => none
def tupled : List Value → Value
  | [v] => v
  | vs => .tuple vs.toArray
def setAll : List Value → Nat → Tr Value → Tr Value
  | [], _, t => t
  | v :: r, i, t => setAll r (i + 1) (t.set i (some v))
def Fr.init (n : Nat) (args : Array Value) : Fr := ⟨args.size + (n - args.size), setAll args.toList 0 .nil⟩
def evalF (P : Program) (prim : CallF) : Nat → CallF
  | 0, _, _, _ => none
  | n + 1, f, args, H =>
    match prim f args H with
    | some r => some r
    | none =>
      match P.funcs[f]? with
      | some fn => match fn.body with
        | some c => match evalC P (evalF P prim n) n c (Fr.init fn.ntmps args) H with
          | some (.exit _, _, _) => none
          | some (_, fr, H) => (resultsA P fr H fn.results.toList).map fun vs => (tupled vs, H)
          | none => none
        | none => none
      | none => none
end Go.Ab
