/- What each operation does in the virtual memory; running code there. -/
import Derived.Test.YtlemialjfnbchaaGreatVmA
import Derived.LoadGo2

namespace Go.Vm
open Go

def isP : AV → Option Value
  | .p v => some v
  | _ => none
def concL : List AV → Option (List Value)
  | [] => some []
  | x :: r => match isP x, concL r with | some v, some l => some (v :: l) | _, _ => none
def conc : AV → Option Value
  | .p v => some v
  | .agg xs => match concL xs with | some l => some (.agg l.toArray) | none => none
  | .ifc t (.p v) => some (.iface t v)
  | _ => none
def abs1 : Value → AV
  | .agg cs => .agg (cs.toList.map .p)
  | v => .p v
def abs : Value → AV
  | .agg cs => .agg (cs.toList.map .p)
  | .tuple vs => .tup (vs.toList.map abs1)
  | v => .p v

/-- What a program of the model gives where it neither reads nor writes the world. -/
def pv {α : Type} (P : Program) : Sem α → Option α
  | .pure a => some a
  | .program k => pv P (k P)
  | .mark _ k => pv P k
  | _ => none

def ev (t : Tr) : Operand → AV
  | .tmp i => t.get i
  | .const v => .p v
  | .global g => .p (.pointer (some ⟨g, 0, none⟩))
  | .func f => .p (.func (.func f) #[] #[])

inductive Out where
  | val (v : AV) (hp : List Blk)
  | call (f : FuncId) (args : List AV)

def cellsA : AV → List AV
  | .agg xs => xs
  | .p (.agg cs) => cs.toList.map .p
  | v => [v]
def one : AV → Bool
  | .p v => v.oneCell'
  | .agg _ | .tup _ | .top => false
  | _ => true
def imm0 : AV → Bool
  | .p _ | .lst _ _ | .lit _ _ | .ip _ _ | .emp => true
  | _ => false

def isAggT (P : Program) (t : TypeId) : Option Bool :=
  match P.underlying t with
  | some (.struct _) | some (.array _ _) => some true
  | some _ => some false
  | none => none
def szT (P : Program) (t : TypeId) : Option Nat := match P.info? t with | some i => some i.size | none => none
def zeroT (P : Program) (t : TypeId) : Option Value := match P.info? t with | some i => i.zero | none => none
def bytesT (P : Program) (t : TypeId) : Option Nat := match P.info? t with | some i => some i.bytes | none => none
def elemT (P : Program) (t : TypeId) : Option TypeId := match P.underlying t with | some (.slice e) => some e | _ => none

def ldN (xs : List AV) (k n : Nat) : Option (List AV) :=
  let ys := (xs.drop k).take n
  cond (Nat.beq ys.length n) (some ys) none
def ld (P : Program) (t : TypeId) (xs : List AV) (k : Nat) : Option AV :=
  match isAggT P t with
  | some true => match szT P t with | some n => (match ldN xs k n with | some l => some (.agg l) | none => none) | none => none
  | some false => xs[k]?
  | none => none
def splice (xs : List AV) (k : Nat) (cs : List AV) : List AV := xs.take k ++ cs ++ xs.drop (k + cs.length)

def noKeys (b : Blk) : Bool := match b.keys with | none => true | some _ => false
def getB (hp : List Blk) (i g : Nat) : Option Blk :=
  match hp[i]? with
  | some b => cond (Nat.beq b.gen g && noKeys b) (some b) none
  | none => none
/-- a map: its keys, its block -/
def getM (hp : List Blk) (i g : Nat) : Option (List Value × Blk) :=
  match hp[i]? with
  | some b => cond (Nat.beq b.gen g) (match b.keys with | some ks => some (ks, b) | none => none) none
  | none => none

/-- the cells behind a pointer: those of the row or block that it points into, and where -/
def cellsAt (hp : List Blk) : AV → Option (List AV × Nat)
  | .ip xs k => some (xs, k)
  | .ptr i g k => match getB hp i g with | some b => some (b.cells, k) | none => none
  | _ => none

def stV (hp : List Blk) (i g k : Nat) (cs : List AV) : Option (List Blk) :=
  match getB hp i g with
  | some b =>
    cond (!b.ro && Nat.ble (k + cs.length) b.cells.length && cs.all one && (!b.row || cs.all imm0))
      (some (hp.set i { b with cells := splice b.cells k cs })) none
  | none => none

/-- a slice's elements as cells that stay: its block is not written any more -/
def frzRow (fz : List Blk → List AV → Option (List AV × List Blk)) (hp : List Blk) (i g k n : Nat) : Option (AV × List Blk) :=
  match getB hp i g with
  | some b => cond b.row
      (match ldN b.cells k (n * b.esz) with
       | some cs => some (.lst n cs, hp.set i { b with ro := true })
       | none => none)
      (match fz hp b.cells with
       | some (cs', hp1) => (match ldN cs' k (n * b.esz), getB hp1 i g with
         | some cs, some b1 => cond (cs'.all imm0) (some (.lst n cs, hp1.set i { b1 with ro := true })) none
         | _, _ => none)
       | none => none)
  | none => none
def frzV (fz : List Blk → List AV → Option (List AV × List Blk)) (hp : List Blk) : AV → Option (AV × List Blk)
  | .ref i g k n => frzRow fz hp i g k n
  | .lit n xs => some (.lst n xs, hp)
  | v => some (v, hp)
def frzL (f : List Blk → AV → Option (AV × List Blk)) (hp : List Blk) : List AV → Option (List AV × List Blk)
  | [] => some ([], hp)
  | x :: r => match f hp x with
    | some (y, hp1) => (match frzL f hp1 r with | some (l, hp2) => some (y :: l, hp2) | none => none)
    | none => none
def frz0 (hp : List Blk) (x : AV) : Option (AV × List Blk) := frzV (fun _ _ => none) hp x
def frz1 (hp : List Blk) (x : AV) : Option (AV × List Blk) := frzV (frzL frz0) hp x
def frz2 (hp : List Blk) (x : AV) : Option (AV × List Blk) := frzV (frzL frz1) hp x
def frz (hp : List Blk) : AV → Option (AV × List Blk)
  | .agg xs => match frzL frz2 hp xs with | some (l, hp') => some (.agg l, hp') | none => none
  | .tup xs => match frzL frz2 hp xs with | some (l, hp') => some (.tup l, hp') | none => none
  | v => frz2 hp v
def frzAll (hp : List Blk) : List AV → Option (List AV × List Blk)
  | [] => some ([], hp)
  | x :: r => match frz hp x with
    | some (y, hp1) => (match frzAll hp1 r with | some (l, hp2) => some (y :: l, hp2) | none => none)
    | none => none

/-- the cells of a slice's elements -/
def elemsOf (hp : List Blk) : AV → Option (Nat × List AV)
  | .lst n xs => some (n, xs)
  | .lit n xs => some (n, xs)
  | .emp => some (0, [])
  | .p (.slice none 0 _) => some (0, [])
  | .ref i g k n => match getB hp i g with
    | some b => (match ldN b.cells k (n * b.esz) with | some cs => some (n, cs) | none => none)
    | none => none
  | .p (.string s) => some (s.size, s.data.toList.map fun c => .p (.int .u8 c.toNat))
  | _ => none

def fillA (place : Nat → Option (Nat × Nat)) (cells : List AV) : List (Nat × AV) → Option (List AV)
  | [] => some cells
  | (i, v) :: rest => match place i with
    | none => none
    | some (off, size) =>
      let cs := cellsA v
      cond (Nat.beq cs.length size && Nat.ble (off + cs.length) cells.length && cs.all one) (fillA place (splice cells off cs) rest) none

def natOf (v : AV) : Option Nat :=
  match v with
  | .p (.int _ (.ofNat n)) => some n
  | _ => none

def isNilOf (d : Option TypeDesc) (x y : AV) : Option Bool :=
  match d with
  | some (.pointer _) => (match x, y with
    | .ptr _ _ _, .p (.pointer none) => some false
    | .p (.pointer none), .ptr _ _ _ => some false
    | .ip _ _, .p (.pointer none) => some false
    | _, _ => none)
  | some (.func _ _ _) => (match x, y with
    | .fn _ _ _, .p .nilFunc => some false
    | .p .nilFunc, .fn _ _ _ => some false
    | _, _ => none)
  | some (.interface _) => (match x, y with
    | .ifc _ _, .p .nilIface => some false
    | .p .nilIface, .ifc _ _ => some false
    | _, _ => none)
  | some (.slice _) => (match x, y with
    | .lst (_ + 1) _, .p (.slice none _ _) => some false
    | .p (.slice none _ _), .lst (_ + 1) _ => some false
    | .lit (_ + 1) _, .p (.slice none _ _) => some false
    | .p (.slice none _ _), .lit (_ + 1) _ => some false
    | .ref _ _ _ (_ + 1), .p (.slice none _ _) => some false
    | .p (.slice none _ _), .ref _ _ _ (_ + 1) => some false
    | _, _ => none)
  | _ => none

/-- whether two structs of numbers and truths are the same, part by part -/
def eqFs (P : Program) : List Field → List AV → List AV → Option Bool
  | [], _, _ => some true
  | f :: r, xs, ys => cond (f.name != "_") (match P.underlying f.type, xs[f.offset]?, ys[f.offset]?, eqFs P r xs ys with
    | some (.int _), some (.p (.int k a)), some (.p (.int k' b)), some q => cond (k == k') (some ((a == b) && q)) none
    | some .bool, some (.p (.bool a)), some (.p (.bool b)), some q => some ((a == b) && q)
    | some .string, some (.p (.string a)), some (.p (.string b)), some q => some ((a.data.toList == b.data.toList) && q)
    | some (.complex _), some (.p (.complex k a b)), some (.p (.complex k' a' b')), some q => cond (k == k') (some ((Op.floatEq k a a' && Op.floatEq k b b') && q)) none
    | _, _, _, _ => none) none
/-- the same with structs in structs -/
def eqFsN (P : Program) : Nat → List Field → List AV → List AV → Option Bool
  | _, [], _, _ => some true
  | 0, _ :: _, _, _ => none
  | n + 1, f :: r, xs, ys => cond (f.name != "_") (match eqFsN P n r xs ys with
    | none => none
    | some q => match P.underlying f.type with
      | some (.struct fs) => cond (P.stoodInHeld f.type) none (match szT P f.type with
        | some k => (match ldN xs f.offset k, ldN ys f.offset k with
          | some us, some vs => (match eqFsN P n fs.toList us vs with | some b => some (b && q) | none => none)
          | _, _ => none)
        | none => none)
      | _ => (match eqFs P [f] xs ys with | some b => some (b && q) | none => none)) none
def eqStr (P : Program) (ty : TypeId) (x y : AV) : Option Bool :=
  match x, y with
  | .agg xs, .agg ys => (match P.underlying ty with
    | some (.struct fs) => cond (!(P.stoodInHeld ty) && !(P.eqGuardType P.depth ty)) (match eqFs P fs.toList xs ys with | some b => some b | none => eqFsN P 40 fs.toList xs ys) none
    | _ => none)
  | _, _ => none
def eqOf (P : Program) (ty : TypeId) (x y : AV) : Option Bool :=
  match isNilOf (P.underlying ty) x y with
  | some b => some b
  | none => eqStr P ty x y

def allConc (t : Tr) : List Operand → Bool
  | [] => true
  | x :: r => (conc (ev t x)).isSome && allConc t r
def rho (t : Tr) (x : Operand) : Value := (conc (ev t x)).getD undef
def noSel : Op → Bool
  | .select _ _ => false
  | _ => true
def pure1 (P : Program) (t : Tr) (hp : List Blk) (o : Oper) : Option Out :=
  cond (noSel o.op && allConc t o.op.operands.toList)
    (match pv P (execOp (rho t) o) with
     | some (.value v) => some (.val (abs v) hp)
     | some (.enter f args) => some (.call f (args.toList.map abs1))
     | _ => none) none

def getTup : AV → Nat → Option AV
  | .tup xs, i => xs[i]?
  | _, _ => none

def strOf : List AV → Option (List UInt8)
  | [] => some []
  | .p (.int .u8 (.ofNat n)) :: r => cond (Nat.blt n 256) (match strOf r with | some l => some (UInt8.ofNat n :: l) | none => none) none
  | _ => none

def srcT (P : Program) (u : TypeId) (sz : Nat) (x : AV) : Bool :=
  match P.underlying u with
  | some .string => (match x with | .p (.string _) => Nat.beq sz 1 | _ => false)
  | some (.slice _) => (match x with | .p (.string _) => false | _ => true)
  | _ => false

/-- cells of an element that leads nowhere -/
def plainZ (z : List AV) : Bool := z.all fun v => match v with
  | .p (.slice _ _ _) | .p (.pointer _) | .p (.map _) | .p .nilFunc | .p .nilIface => false
  | .p _ => true
  | _ => false
/-- what is appended: a slice's elements, a string's bytes, so many zeros -/
def appSrc (P : Program) (hp : List Blk) (e xt : TypeId) (x : AV) : Option (Nat × List AV) :=
  match P.underlying xt with
  | some (.int _) => (match x, zeroT P e, bytesT P e with
    | .p (.int _ (.ofNat n)), some z, some by_ => cond (Nat.ble (n * by_) 70368744177664) (some (n, (List.replicate n (cellsA (abs1 z))).flatten)) none
    | _, _, _ => none)
  | _ => match szT P e with
    | some sz => cond (srcT P xt sz x) (elemsOf hp x) none
    | none => none
def appendV (P : Program) (hp : List Blk) (st xt : TypeId) (s x : AV) : Option Out :=
  match elemT P st with
  | none => none
  | some e =>
    match szT P e, bytesT P e, zeroT P e, appSrc P hp e xt x with
    | some sz, some by_, some z, some (m, new) =>
      cond (Nat.ble 1 sz && Nat.ble 1 by_ && Nat.beq (cellsA (abs1 z)).length sz && Nat.beq new.length (m * sz) && new.all one)
        (match s with
         | .emp | .p (.slice none 0 0) =>
           cond ((!(plainZ (cellsA (abs1 z))) || new.all imm0) && Nat.ble (m * by_) 70368744177664)
             (some (.val (.ref hp.length 0 0 m) (hp ++ [{ cells := new, esz := sz, gen := 0, row := plainZ (cellsA (abs1 z)), ro := false }]))) none
         | .lit n old =>
           cond (Nat.beq m 0) (some (.val (.lit n old) hp))
             (cond (Nat.beq old.length (n * sz) && (!(plainZ (cellsA (abs1 z))) || (old.all imm0 && new.all imm0)) && Nat.ble ((n + m) * by_) 70368744177664)
               (some (.val (.ref hp.length 0 0 (n + m)) (hp ++ [{ cells := old ++ new, esz := sz, gen := 0, row := plainZ (cellsA (abs1 z)), ro := false }]))) none)
         | .ref i g k n =>
           match getB hp i g with
           | some b =>
             cond ((!b.row || new.all imm0) && !b.ro && Nat.beq b.esz sz && Nat.ble ((n + m) * by_) 70368744177664)
               (match ldN b.cells k (n * sz) with
                | some old => some (.val (.ref i (g + 1) 0 (n + m)) (hp.set i { b with cells := old ++ new, gen := g + 1 }))
                | none => none) none
           | none => none
         | _ => none) none
    | _, _, _, _ => none

def lenV (hp : List Blk) (v : AV) : Option Nat :=
  match v with
  | .lst n _ => some n
  | .lit n _ => some n
  | .ref i g _ n => match getB hp i g with | some _ => some n | none => none
  | .emp => some 0
  | _ => none

def sliceV (P : Program) (hp : List Blk) (t : TypeId) (x : AV) (lo hi mx : Option AV) : Option Out :=
  match elemT P t with
  | none => none
  | some e => match szT P e with
    | none => none
    | some sz =>
      match lenV hp x with
      | none => none
      | some n =>
        match (match lo with | none => some 0 | some v => natOf v), (match hi with | none => some n | some v => natOf v) with
        | some l, some h =>
          cond (Nat.ble l h && Nat.ble h n)
            (match mx with
             | some m => (match natOf m with | some m => cond (hi.isSome && Nat.beq m l && Nat.beq h l) (some (.val .emp hp)) none | none => none)
             | none =>
               match x with
               | .lst _ xs => (match ldN xs (l * sz) ((h - l) * sz) with | some ys => some (.val (.lst (h - l) ys) hp) | none => none)
               | .lit _ xs => (match ldN xs (l * sz) ((h - l) * sz) with | some ys => some (.val (.lst (h - l) ys) hp) | none => none)
               | .ref i g k _ => match getB hp i g with
                 | some b => cond (Nat.beq b.esz sz)
                     (cond (Nat.beq l 0) (some (.val (.ref i g k h) hp)) (cond (Nat.beq l h) (some (.val (.lst 0 []) hp)) (some (.val (.ref i g (k + l * sz) (h - l)) hp)))) none
                 | none => none
               | .emp => some (.val .emp hp)
               | _ => none) none
        | _, _ => none

/-! maps -/
def sameK : Value → Value → Option Bool
  | .int k a, .int k' b => cond (k == k') (some (a == b)) none
  | .string a, .string b => some (a.data.toList == b.data.toList)
  | _, _ => none
/-- a value that leads to no block -/
def immV : AV → Bool
  | .agg xs => xs.all imm0
  | v => imm0 v
/-- a map all of whose values lead to no block -/
def mrow (r : Bool) (v : AV) : Bool := cond (immV v) r false
def findK (k : Value) : List Value → Nat → Option (Option Nat)
  | [], _ => some none
  | x :: r, i => match sameK k x with
    | some true => some (some i)
    | some false => findK k r (i + 1)
    | none => none
def keyT (P : Program) (kt : TypeId) (k : Value) : Bool :=
  match P.underlying kt, k with
  | some (.int _), .int _ _ => true
  | some .string, .string _ => true
  | _, _ => false
def mapT (P : Program) (t : TypeId) : Option (TypeId × TypeId) := match P.underlying t with | some (.map k e) => some (k, e) | _ => none
def outK (ok : Bool) (v : AV) (b : Bool) : AV := cond ok (.tup [v, .p (.bool b)]) v
def lookupV (P : Program) (hp : List Blk) (t : TypeId) (x k : AV) (ok : Bool) : Option Out :=
  match mapT P t, k with
  | some (kt, et), .p kv =>
    cond (keyT P kt kv)
      (match zeroT P et, x with
       | some z, .p (.map none) => some (.val (outK ok (abs1 z) false) hp)
       | some z, .mp i g => (match getM hp i g with
         | some (ks, b) => (match findK kv ks 0 with
           | some (some j) => (match b.cells[j]? with | some v => some (.val (outK ok v true) hp) | none => none)
           | some none => some (.val (outK ok (abs1 z) false) hp)
           | none => none)
         | none => none)
       | _, _ => none) none
  | _, _ => none
def updateV (P : Program) (hp : List Blk) (t : TypeId) (x k v : AV) : Option Out :=
  match mapT P t, k, x, frz hp v with
  | some (kt, _), .p kv, .mp i g, some (v', hp1) =>
    cond (keyT P kt kv)
      (match getM hp1 i g with
       | some (ks, b) => cond b.ro none (match findK kv ks 0 with
         | some (some j) => cond (Nat.blt j b.cells.length) (some (.val (.p undef) (hp1.set i { b with cells := b.cells.set j v', row := mrow b.row v' }))) none
         | some none => some (.val (.p undef) (hp1.set i { b with cells := b.cells ++ [v'], row := mrow b.row v', keys := some (ks ++ [kv]) }))
         | none => none)
       | none => none) none
  | _, _, _, _ => none
def deleteV (P : Program) (hp : List Blk) (t : TypeId) (x k : AV) : Option Out :=
  match mapT P t, k, x with
  | some (kt, _), .p kv, .mp i g =>
    cond (keyT P kt kv)
      (match getM hp i g with
       | some (ks, b) => cond b.ro none (match findK kv ks 0 with
         | some (some j) => some (.val (.tup []) (hp.set i { b with cells := b.cells.eraseIdx j, keys := some (ks.eraseIdx j) }))
         | some none => some (.val (.tup []) hp)
         | none => none)
       | none => none) none
  | _, _, _ => none
def clearV (P : Program) (hp : List Blk) (t : TypeId) (x : AV) : Option Out :=
  match x with
  | .mp i g => (match mapT P t, getM hp i g with
    | some _, some (_, b) => cond b.ro none (some (.val (.tup []) (hp.set i { b with cells := [], keys := some [] })))
    | _, _ => none)
  | .lst 0 _ => (match elemT P t with | some _ => some (.val (.tup []) hp) | none => none)
  | .ref i g k n => (match elemT P t with
    | some e => (match szT P e, zeroT P e, getB hp i g with
      | some sz, some z, some b =>
        cond (Nat.ble 1 n && Nat.beq b.esz sz && !b.ro && Nat.beq (cellsA (abs1 z)).length sz && (cellsA (abs1 z)).all one && (!b.row || (cellsA (abs1 z)).all imm0) && Nat.ble (k + n * sz) b.cells.length)
          (some (.val (.tup []) (hp.set i { b with cells := splice b.cells k (List.replicate n (cellsA (abs1 z))).flatten }))) none
      | _, _, _ => none)
    | none => none)
  | _ => none
def mlenV (hp : List Blk) (x : AV) : Option Nat :=
  match x with
  | .mp i g => (match getM hp i g with | some (ks, _) => some ks.length | none => none)
  | _ => none
/-- copy into a row -/
def copyV (P : Program) (hp : List Blk) (dt st : TypeId) (d s : AV) : Option Out :=
  match elemT P dt, d with
  | some e, .ref i g k n => (match szT P e, getB hp i g, elemsOf hp s with
    | some sz, some b, some (m, xs) =>
      cond (srcT P st sz s && (elemT P st).isSome && Nat.beq b.esz sz && Nat.beq xs.length (m * sz) && !b.ro && xs.all one && (!b.row || xs.all imm0) && Nat.ble (k + n * sz) b.cells.length)
        (some (.val (.p (.int .i64 (Nat.min m n))) (hp.set i { b with cells := splice b.cells k (xs.take (Nat.min m n * sz)) }))) none
    | _, _, _ => none)
  | _, _ => none

def callee (P : Program) (f : FuncId) : Bool :=
  match P.funcs[f]? with
  | some fn => fn.body.isSome && !(fn.name == "runtime.NumGoroutine")
  | none => false

def vop (P : Program) (o : Oper) (t : Tr) (hp : List Blk) : Option Out :=
  match o.op with
  | .move x | .assign x => some (.val (ev t x) hp)
  | .pick c a b => match ev t c with
    | .p (.bool v) => some (.val (cond v (ev t a) (ev t b)) hp)
    | _ => none
  | .alloc e => match zeroT P e with
    | some z => some (.val (.ptr hp.length 0 0) (hp ++ [{ cells := cellsA (abs1 z), esz := 0, gen := 0, row := false, ro := false }]))
    | none => none
  | .box _ x =>
    cond ((cellsA (ev t x)).all one) (some (.val (.ptr hp.length 0 0) (hp ++ [{ cells := cellsA (ev t x), esz := 0, gen := 0, row := false, ro := false }]))) none
  | .build ty parts => match zeroT P ty, P.underlying ty with
    | some z, some (.struct fields) =>
      (match fillA (fun i => match fields[i]? with | some f => (match szT P f.type with | some n => some (f.offset, n) | none => none) | none => none)
        (cellsA (abs1 z)) (parts.toList.map fun (i, x) => (i, ev t x)) with
       | some cs => cond (fields.toList.all fun f => (szT P f.type).isSome) (some (.val (.agg cs) hp)) none
       | none => none)
    | some z, some (.array _ e) => (match szT P e with
      | some sz => (match fillA (fun i => some (i * sz, sz)) (cellsA (abs1 z)) (parts.toList.map fun (i, x) => (i, ev t x)) with
        | some cs => some (.val (.agg cs) hp)
        | none => none)
      | none => none)
    | _, _ => none
  | .buildSlice ty n parts => match elemT P ty with
    | some e => (match szT P e, zeroT P e, frzAll hp (parts.toList.map fun (_, x) => ev t x) with
      | some sz, some z, some (vs, hp1) =>
        (match fillA (fun i => some (i * sz, sz)) ((List.replicate n (cellsA (abs1 z))).flatten) ((parts.toList.map (·.1)).zip vs) with
         | some cs => cond (Nat.ble (n * sz) 16777216 && Nat.ble 1 sz && Nat.beq (cellsA (abs1 z)).length sz && Nat.beq cs.length (n * sz) && cs.all imm0 && cs.all one)
             (cond (Nat.beq n 0) (some (.val .emp hp1)) (some (.val (.lit n cs) hp1))) none
         | none => none)
      | _, _, _ => none)
    | none => none
  | .load ty a => match cellsAt hp (ev t a) with
    | some (xs, k) => (match ld P ty xs k with | some v => some (.val v hp) | none => none)
    | none => none
  | .store ty a x => match ev t a, szT P ty, frzS hp (ev t a) (ev t x) with
    | .ptr i g k, some n, some (v, hp1) =>
      cond (Nat.beq (cellsA v).length n) (match stV hp1 i g k (cellsA v) with | some hp2 => some (.val (.p undef) hp2) | none => none) none
    | _, _, _ => none
  | .nilCheck x => match ev t x with
    | .ptr i g k => some (.val (.ptr i g k) hp)
    | .ip xs k => some (.val (.ip xs k) hp)
    | .fn (.func f) a b => some (.val (.fn (.func f) a b) hp)
    | .ifc ty v => some (.val (.ifc ty v) hp)
    | _ => pure1 P t hp o
  | .binOp .eql ty x y _z => match eqOf P ty (ev t x) (ev t y) with
    | some b => some (.val (.p (.bool b)) hp)
    | none => pure1 P t hp o
  | .binOp .neq ty x y _z => match eqOf P ty (ev t x) (ev t y) with
    | some b => some (.val (.p (.bool (!b))) hp)
    | none => pure1 P t hp o
  | .makeFunc f a b => some (.val (.fn f (a.toList.map (ev t)) (b.toList.map (ev t))) hp)
  | .makeInterface ty x => match P.underlying ty with
    | some (.interface _) => none
    | some _ => some (.val (.ifc ty (ev t x)) hp)
    | none => none
  | .fieldAddr s x f => match P.underlying s with
    | some (.struct fields) => (match fields[f]? with
      | some fd => (match szT P fd.type with
        | some n => cond (Nat.beq n 0) none (match ev t x with
          | .ptr i g k => some (.val (.ptr i g (k + fd.offset)) hp)
          | .ip xs k => some (.val (.ip xs (k + fd.offset)) hp)
          | _ => none)
        | none => none)
      | none => none)
    | _ => none
  | .field s x f => match ev t x, P.underlying s with
    | .agg xs, some (.struct fields) => (match fields[f]? with
      | some fd => (match ld P fd.type xs fd.offset with | some v => some (.val v hp) | none => none)
      | none => none)
    | _, _ => pure1 P t hp o
  | .indexAddr ty x ix => match natOf (ev t ix), P.underlying ty with
    | some i, some (.slice e) => (match szT P e, ev t x with
      | some sz, .lst n xs => cond (Nat.blt i n) (some (.val (.ip xs (i * sz)) hp)) none
      | some sz, .lit n xs => cond (Nat.blt i n) (some (.val (.ip xs (i * sz)) hp)) none
      | some sz, .ref b g k n => (match getB hp b g with
        | some bl => cond (Nat.blt i n && Nat.beq bl.esz sz && Nat.ble ((i + 1) * sz + k) bl.cells.length) (some (.val (.ptr b g (k + i * sz)) hp)) none
        | none => none)
      | _, _ => none)
    | some i, some (.array n e) => (match szT P e, ev t x with
      | some sz, .ptr b g k => cond (Nat.blt i n) (some (.val (.ptr b g (k + i * sz)) hp)) none
      | some sz, .ip xs k => cond (Nat.blt i n) (some (.val (.ip xs (k + i * sz)) hp)) none
      | _, _ => none)
    | _, _ => none
  | .makeSlice ty ln cp => match elemT P ty, natOf (ev t ln), natOf (ev t cp) with
    | some e, some n, some c => (match szT P e, bytesT P e, zeroT P e with
      | some sz, some by_, some z =>
        cond (Nat.ble n c && Nat.ble (by_ * c) 70368744177664 && Nat.ble 1 sz && Nat.ble 1 by_ && Nat.beq (cellsA (abs1 z)).length sz && Nat.beq n c && ((List.replicate c (cellsA (abs1 z))).flatten).all imm0)
          (some (.val (.ref hp.length 0 0 n) (hp ++ [{ cells := (List.replicate c (cellsA (abs1 z))).flatten, esz := sz, gen := 0, row := plainZ (cellsA (abs1 z)), ro := false }]))) none
      | _, _, _ => none)
    | _, _, _ => none
  | .makeMap ty r => match mapT P ty, r.map (ev t) with
    | some _, none => some (.val (.mp hp.length 0) (hp ++ [{ cells := [], esz := 0, gen := 0, row := true, ro := false, keys := some [] }]))
    | some _, some (.p (.int _ _)) => some (.val (.mp hp.length 0) (hp ++ [{ cells := [], esz := 0, gen := 0, row := true, ro := false, keys := some [] }]))
    | _, _ => none
  | .lookup ty x k ok => (match ev t x with
    | .p (.string _) => pure1 P t hp o
    | y => lookupV P hp ty y (ev t k) ok)
  | .mapUpdate ty x k v => updateV P hp ty (ev t x) (ev t k) (ev t v)
  | .slice ty x lo hi mx => match ev t x with
    | .p _ => pure1 P t hp o
    | v => sliceV P hp ty v (lo.map (ev t)) (hi.map (ev t)) (mx.map (ev t))
  | .extract x i => match getTup (ev t x) i with
    | some v => some (.val v hp)
    | none => none
  | .convert src dst x => match P.underlying src, P.underlying dst with
    | some (.slice e), some .string => (match P.underlying e, elemsOf hp (ev t x) with
      | some (.int .u8), some (n, xs) => (match ev t x with
        | .p (.string _) => none
        | _ => cond (Nat.beq xs.length n) (match strOf xs with | some l => some (.val (.p (.string ⟨l.toArray⟩)) hp) | none => none) none)
      | _, _ => none)
    | _, _ => pure1 P t hp o
  | .call c => match c.callee with
    | .builtin .append => (match c.args.toList, c.argTypes.toList with
      | [s, x], [st, xt] => appendV P hp st xt (ev t s) (ev t x)
      | _, _ => none)
    | .builtin .delete => (match c.args.toList, c.argTypes.toList with
      | [x, k], [ty, _] => deleteV P hp ty (ev t x) (ev t k)
      | _, _ => none)
    | .builtin .clear => (match c.args.toList, c.argTypes.toList with
      | [x], [ty] => clearV P hp ty (ev t x)
      | _, _ => none)
    | .builtin .copy => (match c.args.toList, c.argTypes.toList with
      | [x, y], [dt, st] => copyV P hp dt st (ev t x) (ev t y)
      | _, _ => none)
    | .builtin .len => (match c.args.toList, c.argTypes.toList with
      | [x], [ty] => (match lenV hp (ev t x) with
        | some n => (match P.underlying ty with | some (.slice _) => some (.val (.p (.int .i64 n)) hp) | _ => none)
        | none => (match mlenV hp (ev t x) with
          | some n => (match P.underlying ty with | some (.map _ _) => some (.val (.p (.int .i64 n)) hp) | _ => none)
          | none => pure1 P t hp o))
      | _, _ => pure1 P t hp o)
    | .builtin _ => pure1 P t hp o
    | .value f => (match ev t f with
      | .p (.func (.func g) a b) =>
        cond (callee P g && Nat.beq a.size 0 && Nat.beq b.size 0) (some (.call g (c.args.toList.map (ev t)))) (pure1 P t hp o)
      | .fn (.func g) a b => cond (callee P g) (some (.call g (a ++ c.args.toList.map (ev t) ++ b))) none
      | _ => none)
    | .invoke _ _ => none
  | _ => pure1 P t hp o
where
  frzS (hp : List Blk) (a x : AV) : Option (AV × List Blk) :=
    match a with
    | .ptr i g _ => match getB hp i g with
      | some b => cond b.row (frz hp x) (some (x, hp))
      | none => none
    | _ => none

/-! renaming of blocks -/
def ren0 (ρ : Nat → Option Nat) : AV → AV
  | .ref i g k n => match ρ i with | some j => .ref j g k n | none => .top
  | .ptr i g k => match ρ i with | some j => .ptr j g k | none => .top
  | .mp i g => match ρ i with | some j => .mp j g | none => .top
  | .agg _ | .tup _ | .fn _ _ _ | .ifc _ _ => .top
  | v => v
def renUp (r : AV → AV) (ρ : Nat → Option Nat) : AV → AV
  | .ref i g k n => match ρ i with | some j => .ref j g k n | none => .top
  | .ptr i g k => match ρ i with | some j => .ptr j g k | none => .top
  | .mp i g => match ρ i with | some j => .mp j g | none => .top
  | .agg xs => .agg (xs.map r)
  | .tup xs => .tup (xs.map r)
  | .fn f xs ys => .fn f (xs.map r) (ys.map r)
  | .ifc t v => .ifc t (r v)
  | v => v
def ren (ρ : Nat → Option Nat) : AV → AV := renUp (renUp (ren0 ρ) ρ) ρ

def ids0 : AV → List Nat
  | .ref i _ _ _ => [i]
  | .ptr i _ _ => [i]
  | .mp i _ => [i]
  | _ => []
def idsUp (r : AV → List Nat) : AV → List Nat
  | .ref i _ _ _ => [i]
  | .ptr i _ _ => [i]
  | .mp i _ => [i]
  | .agg xs => xs.flatMap r
  | .tup xs => xs.flatMap r
  | .fn _ xs ys => xs.flatMap r ++ ys.flatMap r
  | .ifc _ v => r v
  | _ => []
def ids (v : AV) : List Nat := idsUp (idsUp ids0) v

def memB (i : Nat) : List Nat → Bool
  | [] => false
  | j :: r => Nat.beq i j || memB i r
/-- all blocks that can be come to, each once -/
def reach (hp : List Blk) : Nat → List Nat → List Nat → List Nat
  | 0, _, acc => acc
  | _ + 1, [], acc => acc
  | n + 1, i :: todo, acc =>
    cond (memB i acc) (reach hp n todo acc)
      (match hp[i]? with
       | some b => reach hp n (cond b.row todo (b.cells.flatMap ids ++ todo)) (acc ++ [i])
       | none => reach hp n todo acc)
def posOf (l : List Nat) (i : Nat) : Option Nat :=
  match l with
  | [] => none
  | j :: r => cond (Nat.beq i j) (some 0) (match posOf r i with | some k => some (k + 1) | none => none)
def pickB (hp : List Blk) (ρ : Nat → Option Nat) : List Nat → Option (List Blk)
  | [] => some []
  | i :: r => match hp[i]?, pickB hp ρ r with
    | some b, some l => some (cond b.row b { b with cells := b.cells.map (ren ρ) } :: l)
    | _, _ => none

inductive Ex where
  | nrm
  | exit (id : Nat)
  | goto (l : Nat)
  | ret

structure Mode where
  byref : FuncId → Bool
  ov : FuncId → Option (List AV → List Blk → Option (AV × List Blk))

/-- a slice copied into a new row of cells of so many each -/
def cloneV (sz : Nat) (args : List AV) (hp : List Blk) : Option (AV × List Blk) :=
  match args with
  | [v] => (match elemsOf hp v with
    | some (n, xs) => cond (Nat.beq xs.length (n * sz) && xs.all imm0 && xs.all one) (some (.ref hp.length 0 0 n, hp ++ [{ cells := xs, esz := sz, gen := 0, row := true, ro := false }])) none
    | none => none)
  | _ => none

/-- what the caller has behind a call -/
def renB (ρ : Nat → Option Nat) (b : Blk) : Blk := cond b.row b { b with cells := b.cells.map (ren ρ) }
def backB (hp : List Blk) (ρ : Nat → Option Nat) : List Nat → List Blk → List Blk
  | [], _ => hp
  | _, [] => hp
  | i :: r, b :: bs => (backB hp ρ r bs).set i (renB ρ b)
def backMap (l : List Nat) (n j : Nat) : Option Nat :=
  match l[j]? with
  | some i => some i
  | none => some (n + (j - l.length))

def callV (run : FuncId → List AV → List Blk → Option (AV × List Blk)) (M : Mode) (f : FuncId) (args : List AV) (hp : List Blk) : Option (AV × List Blk) :=
  match cond (M.byref f) (some (args, hp)) (frzAll hp args) with
  | none => none
  | some (args1, hp1) =>
    let js := reach hp1 1000 (args1.flatMap ids) []
    match pickB hp1 (posOf js) js with
    | none => none
    | some sub =>
      match run f (args1.map (ren (posOf js))) sub with
      | some (r, hp2) => some (ren (backMap js hp1.length) r, backB hp1 (backMap js hp1.length) js hp2 ++ (hp2.drop js.length).map (renB (backMap js hp1.length)))
      | none => none

def guardV (ops : Array Oper) (t : Tr) (o : Oper) : Option Bool :=
  match o.guard with
  | none => some true
  | some (j, want) =>
    match (ops[j]?).bind (·.dst) with
    | some d => (match t.get d with | .p (.bool b) => some (b == want) | .p _ => some false | _ => none)
    | none => some false

def putV (t : Tr) (d : Option Tmp) (v : AV) : Tr := match d with | some i => t.set i v | none => t

def opV (P : Program) (run : FuncId → List AV → List Blk → Option (AV × List Blk)) (M : Mode) (ops : Array Oper) (o : Oper) (t : Tr) (hp : List Blk) : Option (Tr × List Blk) :=
  match guardV ops t o with
  | none => none
  | some false => some (putV t o.dst (.p undef), hp)
  | some true =>
    match vop P o t hp with
    | none => none
    | some (.val v hp') => some (putV t o.dst v, hp')
    | some (.call f args) =>
      match callV run M f args hp with
      | none => none
      | some (v, hp') => some (putV t o.dst v, hp')
def opsV (P : Program) (run : FuncId → List AV → List Blk → Option (AV × List Blk)) (M : Mode) (ops : Array Oper) : List Oper → Tr → List Blk → Option (Tr × List Blk)
  | [], t, hp => some (t, hp)
  | o :: r, t, hp => match opV P run M ops o t hp with
    | some (t', hp') => opsV P run M ops r t' hp'
    | none => none

/-! ### a region that draws its order: one order that serves all -/
/-- only reads, in the virtual memory -/
def light : Op → Bool
  | .move _ | .assign _ | .pick _ _ _ | .build _ _ | .load _ _ | .nilCheck _ | .binOp _ _ _ _ _ | .unOp _ _ _ | .convert _ _ _ | .makeInterface _ _ | .makeFunc _ _ _ | .fieldAddr _ _ _ | .field _ _ _ | .indexAddr _ _ _ | .index _ _ _
  | .slice _ _ _ _ _ | .extract _ _ | .buildSlice _ _ _ => true
  | .lookup _ _ _ _ => true
  | .call c => (match c.callee with | .builtin .append | .builtin .delete | .builtin .clear | .builtin .copy => false | .builtin _ => true | _ => false)
  | _ => false
/-- makes blocks, and turns none -/
def grows : Op → Bool
  | .alloc _ | .box _ _ | .makeSlice _ _ _ | .makeMap _ _ => true
  | .call c => (match c.callee with | .value _ => true | _ => false)
  | _ => false
/-- turns blocks -/
def writes : Op → Bool
  | .store _ _ _ | .mapUpdate _ _ _ _ => true
  | .call c => (match c.callee with | .builtin .append | .builtin .delete | .builtin .clear | .builtin .copy => true | _ => false)
  | _ => false
/-- asks its operands alone -/
def bare : Op → Bool
  | .move _ | .assign _ | .pick _ _ _ | .build _ _ | .makeFunc _ _ _ | .makeInterface _ _ | .fieldAddr _ _ _ | .field _ _ _ | .nilCheck _ | .extract _ _ | .unOp _ _ _ | .binOp _ _ _ _ _ => true
  | .call c => (match c.callee with | .builtin .real | .builtin .imag | .builtin .complex | .builtin .min | .builtin .max => true | _ => false)
  | _ => false
def masks (ops : List Oper) : List Nat :=
  ops.foldl (fun acc o => acc ++ [o.after.toList.foldl (fun s e => cond (Region.binds .any e) (s ||| 2 ^ e.on ||| acc.getD e.on 0) s) 0]) []
def readyB (ops : List Oper) (done : Nat) (i : Nat) : Bool :=
  match ops[i]? with
  | some o => !(done.testBit i) && o.after.toList.all fun e => !(Region.binds .any e) || done.testBit e.on
  | none => false
def firstB (p : Nat → Bool) : List Nat → Option Nat
  | [] => none
  | i :: r => cond (p i) (some i) (firstB p r)
def planF (ops : List Oper) (all : List Nat) : Nat → Nat → List Nat
  | 0, _ => []
  | n + 1, done =>
    match firstB (fun i => readyB ops done i && (match ops[i]? with | some o => light o.op | none => false)) all with
    | some i => i :: planF ops all n (done ||| 2 ^ i)
    | none => match firstB (readyB ops done) all with
      | some i => i :: planF ops all n (done ||| 2 ^ i)
      | none => []
def planOf (ops : Array Oper) : List Nat := planF ops.toList (List.range ops.size) ops.size 0
/-- each pair of the order: the later one hangs on the earlier one, or the earlier one only reads and they have no slot in common -/
def pairsOk (ops : Array Oper) (ms : List Nat) : List Nat → Bool
  | [] => true
  | x :: r => (r.all fun i => (ms.getD i 0).testBit x || (match ops[x]?, ops[i]? with | some ox, some oi => light ox.op && Oper.apart ops ox oi | _, _ => false)) && pairsOk ops ms r
def isBS : Op → Bool
  | .buildSlice _ _ _ => true
  | _ => false
/-- the same, and no row is built ahead of what does not hang on it -/
def pairsN (ops : Array Oper) (ms : List Nat) : List Nat → Bool
  | [] => true
  | x :: r => (r.all fun i => (ms.getD i 0).testBit x || (match ops[x]? with | some ox => !(isBS ox.op) | none => false)) && pairsN ops ms r
def nbOf (ops : Array Oper) : Bool := pairsN ops (masks ops.toList) (planOf ops)
/-- each one behind all that it hangs on -/
def linB (ops : Array Oper) : List Nat → List Nat → Bool
  | [], _ => true
  | i :: r, done => (match ops[i]? with | some o => o.after.toList.all fun e => !(Region.binds .any e) || memB e.on done | none => false) && !(memB i done) && linB ops r (i :: done)
def planOk (ops : Array Oper) (pl : List Nat) : Bool :=
  Nat.beq pl.length ops.size && linB ops pl [] && pairsOk ops (masks ops.toList) pl && (List.range ops.size).all (fun i => memB i pl) && pl.all (fun i => match ops[i]? with | some o => light o.op || grows o.op || writes o.op | none => false) && Region.noSelect ops
/-- surely the same -/
def eqV : Value → Value → Bool
  | .bool a, .bool b => a == b
  | .int j a, .int k b => j == k && a == b
  | .float j a, .float k b => j == k && Nat.beq a b
  | .complex j a b, .complex k c d => j == k && Nat.beq a c && Nat.beq b d
  | .string a, .string b => a.data.toList == b.data.toList
  | .pointer none, .pointer none => true
  | .slice none l c, .slice none l' c' => Nat.beq l l' && Nat.beq c c'
  | .nilFunc, .nilFunc => true
  | .nilIface, .nilIface => true
  | .map none, .map none => true
  | _, _ => false
def eqList (e : AV → AV → Bool) : List AV → List AV → Bool
  | [], [] => true
  | x :: xs, y :: ys => e x y && eqList e xs ys
  | _, _ => false
def eqUp (e : AV → AV → Bool) : AV → AV → Bool
  | .p u, .p v => eqV u v
  | .emp, .emp => true
  | .ref i g k n, .ref i' g' k' n' => Nat.beq i i' && Nat.beq g g' && Nat.beq k k' && Nat.beq n n'
  | .ptr i g k, .ptr i' g' k' => Nat.beq i i' && Nat.beq g g' && Nat.beq k k'
  | .mp i g, .mp i' g' => Nat.beq i i' && Nat.beq g g'
  | .lst n xs, .lst n' ys => Nat.beq n n' && eqList e xs ys
  | .lit n xs, .lit n' ys => Nat.beq n n' && eqList e xs ys
  | .agg xs, .agg ys => eqList e xs ys
  | _, _ => false
def eqA : AV → AV → Bool := eqUp (eqUp (eqUp (eqUp (eqUp (eqUp fun _ _ => false)))))
def eqVs : List Value → List Value → Bool
  | [], [] => true
  | x :: xs, y :: ys => eqV x y && eqVs xs ys
  | _, _ => false
def eqKs : Option (List Value) → Option (List Value) → Bool
  | none, none => true
  | some a, some b => eqVs a b
  | _, _ => false
def sameBs : List Blk → List Blk → Bool
  | [], _ => true
  | b :: r, b' :: r' => Nat.beq b.gen b'.gen && Nat.beq b.esz b'.esz && (b.row == b'.row) && eqKs b.keys b'.keys && eqList eqA b.cells b'.cells && sameBs r r'
  | _, [] => false
/-- what an operation that only reads has read: blocks; a variable -/
abbrev RdI := List Nat × Option (TypeId × AV)
abbrev Pend := List (Nat × RdI)
def rdV (P : Program) (hp : List Blk) (ty : TypeId) (a : AV) : Option AV :=
  match cellsAt hp a with
  | some (xs, k) => ld P ty xs k
  | none => none
def rdEq (P : Program) (r : RdI) (hp hp' : List Blk) : Bool :=
  match r.2 with
  | some (ty, a) => (match rdV P hp ty a, rdV P hp' ty a with
    | some v, some v' => eqA v v'
    | _, _ => false)
  | none => false
def pendC (P : Program) (mask : Nat) (pend : Pend) (bs : List Nat) (hp hp' : List Blk) : Bool :=
  pend.all fun q => mask.testBit q.1 || (q.2.1.all fun j => !(memB j bs)) || rdEq P q.2 hp hp'
/-- a call in such a region: what was read ahead of it, and may be read behind it as well, lies in blocks that it does not come to -/
def callG (P : Program) (run : FuncId → List AV → List Blk → Option (AV × List Blk)) (M : Mode) (mask : Nat) (pend : Pend) (f : FuncId) (args : List AV) (hp : List Blk) : Option (AV × List Blk) :=
  match cond (M.byref f) (some (args, hp)) (frzAll hp args) with
  | none => none
  | some (args1, hp1) =>
    match callV run M f args hp with
    | some (r, hp') =>
      cond (pendC P mask pend (reach hp1 1000 (args1.flatMap ids) []) hp hp' || sameBs hp hp') (some (r, hp')) none
    | none => none
/-- the parts of a row that is built hold no block -/
def plainB (t : Tr) : Op → Bool
  | .buildSlice _ _ parts => parts.toList.all fun q => (ids (ev t q.2)).isEmpty
  | _ => true
def readIds (t : Tr) (o : Oper) : List Nat := cond (light o.op && !(bare o.op)) (o.op.operands.toList.flatMap fun x => ids (ev t x)) []
def readR (t : Tr) (o : Oper) : RdI := (readIds t o, match o.op with | .load ty x => some (ty, ev t x) | _ => none)
def opG (P : Program) (run : FuncId → List AV → List Blk → Option (AV × List Blk)) (M : Mode) (mask : Nat) (pend : Pend) (ops : Array Oper) (o : Oper) (t : Tr) (hp : List Blk) : Option (Tr × List Blk) :=
  match guardV ops t o with
  | none => none
  | some false => some (putV t o.dst (.p undef), hp)
  | some true =>
    match cond (plainB t o.op || nbOf ops) (vop P o t hp) none with
    | none => none
    | some (.val v hp') => cond (!(writes o.op) || pendC P mask pend (o.op.operands.toList.flatMap fun x => ids (ev t x)) hp hp') (some (putV t o.dst v, hp')) none
    | some (.call f args) =>
      match cond (light o.op) none (callG P run M mask pend f args hp) with
      | none => none
      | some (v, hp') => some (putV t o.dst v, hp')
def planV (P : Program) (run : FuncId → List AV → List Blk → Option (AV × List Blk)) (M : Mode) (ops : Array Oper) (ms : List Nat) : List Nat → Pend → Tr → List Blk → Option (Tr × List Blk)
  | [], _, t, hp => some (t, hp)
  | i :: r, pend, t, hp => match ops[i]? with
    | none => none
    | some o => match opG P run M (ms.getD i 0) pend ops o t hp with
      | some (t', hp') => planV P run M ops ms r ((i, readR t o) :: pend) t' hp'
      | none => none
def dstsOk (N : Nat) (ops : Array Oper) : Bool := ops.toList.all fun o => match o.dst with | some d => Nat.blt d N | none => true
def eqX : AV → AV → Bool
  | .top, .top => true
  | .tup xs, .tup ys => eqList eqA xs ys
  | .fn (.func f) xs us, .fn (.func g) ys vs => Nat.beq f g && eqList eqA xs ys && eqList eqA us vs
  | x, y => eqA x y
def eqT : Tr → Tr → Bool
  | .lf, .lf => true
  | .nd l v r, .nd l' v' r' => eqT l l' && eqX v v' && eqT r r'
  | _, _ => false
def eqH : List Blk → List Blk → Bool
  | [], [] => true
  | b :: r, b' :: r' => eqList eqA b.cells b'.cells && Nat.beq b.esz b'.esz && Nat.beq b.gen b'.gen && (b.row == b'.row) && (b.ro == b'.ro) && eqKs b.keys b'.keys && eqH r r'
  | _, _ => false
/-- whatever the order: this is the end -/
def anyV (P : Program) (run : FuncId → List AV → List Blk → Option (AV × List Blk)) (M : Mode) (ops : Array Oper) (tE : Tr) (hpE : List Blk) : Nat → Array Bool → Tr → List Blk → Bool
  | 0, listed, t, hp => (match Region.ready .any ops listed with | [] => true | _ => false) && eqT t tE && eqH hp hpE
  | n + 1, listed, t, hp => !(match Region.ready .any ops listed with | [] => true | _ => false) && (Region.ready .any ops listed).all fun i => match ops[i]? with
    | some o => (match opV P run M ops o t hp with
      | some (t1, hp1) => anyV P run M ops tE hpE n (listed.setIfInBounds i true) t1 hp1
      | none => false)
    | none => false
def anyR0 (P : Program) (run : FuncId → List AV → List Blk → Option (AV × List Blk)) (M : Mode) (ops : Array Oper) (t : Tr) (hp : List Blk) : Option (Tr × List Blk) :=
  match opsV P run M ops ops.toList t hp with
  | some (t', hp') => cond (anyV P run M ops t' hp' ops.size (Array.replicate ops.size false) t hp) (some (t', hp')) none
  | none => none
/-! what makes blocks may come in any order: the ends are alike but for the new blocks' numbers -/
def pairsT (ops : Array Oper) (ms : List Nat) (nb : Bool) : Bool :=
  (List.range ops.size).all fun x => match ops[x]? with
    | some ox => !(light ox.op) || (List.range ops.size).all fun i => Nat.beq i x || (ms.getD i 0).testBit x || (ms.getD x 0).testBit i || (match ops[i]? with | some oi => !(nb && isBS ox.op) && Oper.apart ops ox oi | none => true)
    | none => true
def isLight (ops : Array Oper) (i : Nat) : Bool := match ops[i]? with | some o => light o.op | none => false
def noneB (l : List Nat) : Bool := match l with | [] => true | _ => false
def treeB (P : Program) (run : FuncId → List AV → List Blk → Option (AV × List Blk)) (M : Mode) (ops : Array Oper) (ms : List Nat) (leaf : Tr → List Blk → Bool) : Nat → Array Bool → Pend → Tr → List Blk → Bool
  | 0, listed, _, t, hp => noneB (Region.ready .any ops listed) && leaf t hp
  | n + 1, listed, pend, t, hp =>
    match firstB (isLight ops) (Region.ready .any ops listed) with
    | some i => (match ops[i]? with
      | some o => (match opG P run M (ms.getD i 0) pend ops o t hp with
        | some (t1, hp1) => treeB P run M ops ms leaf n (listed.setIfInBounds i true) ((i, readR t o) :: pend) t1 hp1
        | none => false)
      | none => false)
    | none => !(noneB (Region.ready .any ops listed)) && (Region.ready .any ops listed).all fun i => (match ops[i]? with
      | some o => (match opG P run M (ms.getD i 0) pend ops o t hp with
        | some (t1, hp1) => treeB P run M ops ms leaf n (listed.setIfInBounds i true) ((i, readR t o) :: pend) t1 hp1
        | none => false)
      | none => false)
def dstsOf (ops : Array Oper) : List Nat := ops.toList.filterMap (·.dst)
def canonJ (hp : List Blk) (K : Nat) (t : Tr) (ds : List Nat) : List Nat := reach hp 1000 ((ds.flatMap fun d => ids (t.get d)) ++ (hp.take K).flatMap fun b => cond b.row [] (b.cells.flatMap ids)) (List.range K)
def leafB (K : Nat) (ds : List Nat) (tE : Tr) (hpE : List Blk) (t : Tr) (hp : List Blk) : Bool :=
  match pickB hp (posOf (canonJ hp K t ds)) (canonJ hp K t ds) with
  | some sub => eqH sub hpE && ds.all fun d => eqX (ren (posOf (canonJ hp K t ds)) (t.get d)) (tE.get d)
  | none => false
def treeR (P : Program) (run : FuncId → List AV → List Blk → Option (AV × List Blk)) (M : Mode) (ops : Array Oper) (t : Tr) (hp : List Blk) : Option (Tr × List Blk) :=
  cond (pairsT ops (masks ops.toList) (nbOf ops))
    (match planV P run M ops (masks ops.toList) (planOf ops) [] t hp with
    | some (t0, hp0) => (match pickB hp0 (posOf (canonJ hp0 hp.length t0 (dstsOf ops))) (canonJ hp0 hp.length t0 (dstsOf ops)) with
      | some hpE => (match (dstsOf ops).foldl (fun u d => u.set d (ren (posOf (canonJ hp0 hp.length t0 (dstsOf ops))) (t0.get d))) t with
        | tE => cond (treeB P run M ops (masks ops.toList) (leafB hp.length (dstsOf ops) tE hpE) ops.size (Array.replicate ops.size false) [] t hp) (some (tE, hpE)) none)
      | none => none)
    | none => none) none
/-! rows that no operation of such a region comes to are not compared -/
def rowZ (hp : List Blk) (j : Nat) : Bool := match hp[j]? with | some b => b.row | none => false
def offZ (hp0 : List Blk) (L : List Nat) : Bool := L.all fun j => !(rowZ hp0 j)
def zOk (P : Program) (M : Mode) (hp0 : List Blk) (o : Oper) (t : Tr) (hp : List Blk) : Bool :=
  match vop P o t hp with
  | some (.val _ _) => !(writes o.op) || offZ hp0 (o.op.operands.toList.flatMap fun x => ids (ev t x))
  | some (.call f args) => (match cond (M.byref f) (some (args, hp)) (frzAll hp args) with
    | some (args1, hp1) => offZ hp0 (reach hp1 1000 (args1.flatMap ids) [])
    | none => true)
  | none => true
def treeBz (P : Program) (run : FuncId → List AV → List Blk → Option (AV × List Blk)) (M : Mode) (ops : Array Oper) (ms : List Nat) (hp0 : List Blk) (leaf : Tr → List Blk → Bool) : Nat → Array Bool → Pend → Tr → List Blk → Bool
  | 0, listed, _, t, hp => noneB (Region.ready .any ops listed) && leaf t hp
  | n + 1, listed, pend, t, hp =>
    match firstB (isLight ops) (Region.ready .any ops listed) with
    | some i => (match ops[i]? with
      | some o => (match opG P run M (ms.getD i 0) pend ops o t hp with
        | some (t1, hp1) => zOk P M hp0 o t hp && treeBz P run M ops ms hp0 leaf n (listed.setIfInBounds i true) ((i, readR t o) :: pend) t1 hp1
        | none => false)
      | none => false)
    | none => !(noneB (Region.ready .any ops listed)) && (Region.ready .any ops listed).all fun i => (match ops[i]? with
      | some o => (match opG P run M (ms.getD i 0) pend ops o t hp with
        | some (t1, hp1) => zOk P M hp0 o t hp && treeBz P run M ops ms hp0 leaf n (listed.setIfInBounds i true) ((i, readR t o) :: pend) t1 hp1
        | none => false)
      | none => false)
def eqHz : List Blk → List Blk → List Blk → Bool
  | b :: r, x :: xs, y :: ys => cond b.row true (eqList eqA x.cells y.cells) && Nat.beq x.esz y.esz && Nat.beq x.gen y.gen && (x.row == y.row) && (x.ro == y.ro) && eqKs x.keys y.keys && eqHz r xs ys
  | [], xs, ys => eqH xs ys
  | _ :: _, _, _ => false
def fixZ : List Blk → List Blk → List Blk
  | b :: r, y :: ys => cond b.row { y with cells := b.cells } y :: fixZ r ys
  | _, ys => ys
def leafBz (K : Nat) (ds : List Nat) (tE : Tr) (hpE : List Blk) (hp0 : List Blk) (t : Tr) (hp : List Blk) : Bool :=
  match pickB hp (posOf (canonJ hp K t ds)) (canonJ hp K t ds) with
  | some sub => eqHz hp0 sub hpE && ds.all fun d => eqX (ren (posOf (canonJ hp K t ds)) (t.get d)) (tE.get d)
  | none => false
def treeRz (P : Program) (run : FuncId → List AV → List Blk → Option (AV × List Blk)) (M : Mode) (ops : Array Oper) (t : Tr) (hp : List Blk) : Option (Tr × List Blk) :=
  cond (pairsT ops (masks ops.toList) (nbOf ops))
    (match planV P run M ops (masks ops.toList) (planOf ops) [] t hp with
    | some (t0, hp0) => (match pickB hp0 (posOf (canonJ hp0 hp.length t0 (dstsOf ops))) (canonJ hp0 hp.length t0 (dstsOf ops)) with
      | some hpE => (match (dstsOf ops).foldl (fun u d => u.set d (ren (posOf (canonJ hp0 hp.length t0 (dstsOf ops))) (t0.get d))) t with
        | tE => cond (treeBz P run M ops (masks ops.toList) hp (leafBz hp.length (dstsOf ops) tE hpE hp) ops.size (Array.replicate ops.size false) [] t hp) (some (tE, fixZ hp hpE)) none)
      | none => none)
    | none => none) none
def anyR (P : Program) (run : FuncId → List AV → List Blk → Option (AV × List Blk)) (M : Mode) (ops : Array Oper) (t : Tr) (hp : List Blk) : Option (Tr × List Blk) :=
  match treeRz P run M ops t hp with
  | some r => some r
  | none => (match treeR P run M ops t hp with
    | some r => some r
    | none => anyR0 P run M ops t hp)
def regV (P : Program) (run : FuncId → List AV → List Blk → Option (AV × List Blk)) (M : Mode) (N : Nat) (ops : Array Oper) (draw : Bool) (t : Tr) (hp : List Blk) : Option (Tr × List Blk) :=
  cond (dstsOk N ops)
    (cond draw (cond (P.follows .mixedOrders) (match cond (planOk ops (planOf ops)) (planV P run M ops (masks ops.toList) (planOf ops) [] t hp) none with
      | some r => some r
      | none => anyR P run M ops t hp) none) (opsV P run M ops ops.toList t hp)) none

/-! ### ranges over functions: the iterator's own code, its rounds in the caller's frame -/
def noDefer : Op → Bool
  | .defer _ => false
  | _ => true
def exB (P : Program) (run : FuncId → List AV → List Blk → Option (AV × List Blk)) (M : Mode) (N : Nat) : Nat → Code → Tr → List Blk → Option (Ex × Tr × List Blk)
  | 0, _, _, _ => none
  | n + 1, c, t, hp =>
    match c with
    | .skip => some (.nrm, t, hp)
    | .region _ ops draw => cond (!draw && dstsOk N ops && ops.toList.all fun o => noDefer o.op) (match opsV P run M ops ops.toList t hp with | some (t', hp') => some (.nrm, t', hp') | none => none) none
    | .seq a b => (match exB P run M N n a t hp with
      | some (.nrm, t', hp') => exB P run M N n b t' hp'
      | r => r)
    | .block id a => (match exB P run M N n a t hp with
      | some (.exit id', t', hp') => cond (Nat.beq id' id) (some (.nrm, t', hp')) (some (.exit id', t', hp'))
      | r => r)
    | .cond x a b => (match ev t x with
      | .p (.bool v) => cond v (exB P run M N n a t hp) (exB P run M N n b t hp)
      | _ => none)
    | .exit id => some (.exit id, t, hp)
    | .ret => some (.ret, t, hp)
    | _ => none
def setP (t : Tr) : List Tmp → List AV → Option Tr
  | [], [] => some t
  | i :: r, v :: vs => setP (t.set i v) r vs
  | _, _ => none
def roundE (P : Program) (run : FuncId → List AV → List Blk → Option (AV × List Blk)) (M : Mode) (N n : Nat) (tO : Tr) (ps : Array Tmp) (assign body : Code) (args : List AV) (hp : List Blk) : Option (Bool × List Blk) :=
  cond (ps.toList.all fun i => Nat.blt i N)
    (match setP tO ps.toList args with
    | none => none
    | some t1 => match exB P run M N n assign t1 hp with
      | some (.nrm, t2, hp2) => (match exB P run M N n body t2 hp2 with
        | some (.nrm, _, hp3) => some (false, hp3)
        | some (.ret, _, hp3) => some (true, hp3)
        | _ => none)
      | _ => none) none
/-- among the slots: the loop has been left -/
def leftY : Nat := 16384
def isY (ys : List Nat) : Operand → Bool
  | .tmp k => memB k ys && Nat.blt k leftY
  | _ => false
def delY (ys : List Nat) : Option Tmp → List Nat
  | none => ys
  | some d => ys.filter fun k => !(Nat.beq k d)
abbrev RndE := List AV → List Blk → Option (Bool × List Blk)
def plainI (P : Program) (run : FuncId → List AV → List Blk → Option (AV × List Blk)) (M : Mode) (ops : Array Oper) (o : Oper) (t : Tr) (ys : List Nat) (hp : List Blk) : Option (Tr × List Nat × List Blk) :=
  match opV P run M ops o t hp with
  | some (t', hp') => some (t', delY ys o.dst, hp')
  | none => none
def moveI (o : Oper) (t : Tr) (ys : List Nat) (hp : List Blk) : Option (Tr × List Nat × List Blk) :=
  match o.guard, o.dst with
  | none, some d => some (t.set d .top, d :: ys, hp)
  | _, _ => none
def yieldI (rnd : RndE) (o : Oper) (c : Call) (t : Tr) (ys : List Nat) (hp : List Blk) : Option (Tr × List Nat × List Blk) :=
  match o.guard with
  | some _ => none
  | none => cond (memB leftY ys) none (match rnd (c.args.toList.map (ev t)) hp with
    | some (false, hp') => some (putV t o.dst (.p (.bool true)), delY ys o.dst, hp')
    | some (true, hp') => some (putV t o.dst (.p (.bool false)), leftY :: delY ys o.dst, hp')
    | none => none)
def opI (P : Program) (run : FuncId → List AV → List Blk → Option (AV × List Blk)) (M : Mode) (rnd : RndE) (ops : Array Oper) (o : Oper) (t : Tr) (ys : List Nat) (hp : List Blk) : Option (Tr × List Nat × List Blk) :=
  match o.op with
  | .move x => cond (isY ys x) (moveI o t ys hp) (plainI P run M ops o t ys hp)
  | .call c => (match c.callee with
    | .value x => cond (isY ys x) (yieldI rnd o c t ys hp) (plainI P run M ops o t ys hp)
    | _ => plainI P run M ops o t ys hp)
  | _ => plainI P run M ops o t ys hp
def opsI (P : Program) (run : FuncId → List AV → List Blk → Option (AV × List Blk)) (M : Mode) (rnd : RndE) (ops : Array Oper) : List Oper → Tr → List Nat → List Blk → Option (Tr × List Nat × List Blk)
  | [], t, ys, hp => some (t, ys, hp)
  | o :: r, t, ys, hp => match opI P run M rnd ops o t ys hp with
    | some (t', ys', hp') => opsI P run M rnd ops r t' ys' hp'
    | none => none
def exI (P : Program) (run : FuncId → List AV → List Blk → Option (AV × List Blk)) (M : Mode) (rnd : RndE) (N : Nat) : Nat → Code → Tr → List Nat → List Blk → Option (Ex × Tr × List Nat × List Blk)
  | 0, _, _, _, _ => none
  | n + 1, c, t, ys, hp =>
    match c with
    | .skip => some (.nrm, t, ys, hp)
    | .region _ ops draw => cond (!draw && dstsOk N ops && ops.toList.all fun o => noDefer o.op) (match opsI P run M rnd ops ops.toList t ys hp with | some (t', ys', hp') => some (.nrm, t', ys', hp') | none => none) none
    | .seq a b => (match exI P run M rnd N n a t ys hp with
      | some (.nrm, t', ys', hp') => exI P run M rnd N n b t' ys' hp'
      | r => r)
    | .cond x a b => (match ev t x with
      | .p (.bool v) => cond v (exI P run M rnd N n a t ys hp) (exI P run M rnd N n b t ys hp)
      | _ => none)
    | .block id a => (match exI P run M rnd N n a t ys hp with
      | some (.exit id', t', ys', hp') => cond (Nat.beq id' id) (some (.nrm, t', ys', hp')) (some (.exit id', t', ys', hp'))
      | r => r)
    | .loop a => (match exI P run M rnd N n a t ys hp with
      | some (.nrm, t', ys', hp') => exI P run M rnd N n (.loop a) t' ys' hp'
      | r => r)
    | .exit id => some (.exit id, t, ys, hp)
    | .ret => some (.ret, t, ys, hp)
    | _ => none
def frameOf : Nat → List AV → Tr → Tr
  | _, [], t => t
  | i, v :: r, t => frameOf (i + 1) r (t.set i v)
/-- a whole range over a function: the memory behind it -/
def rangeE (P : Program) (run : FuncId → List AV → List Blk → Option (AV × List Blk)) (M : Mode) (N n : Nat) (g : Operand) (ps : Array Tmp) (assign body : Code) (t : Tr) (hp : List Blk) : Option (Bool × List Blk) :=
  match ev t g with
  | .fn (.func gf) xs us =>
    cond (callee P gf)
      (match P.funcs[gf]? with
       | some fn => (match fn.body with
         | some ci =>
           cond (Nat.beq fn.results.size 0 && Nat.blt (Nat.max (xs.length + 1 + us.length) fn.ntmps) 16383)
             (match exI P run M (roundE P run M N n t ps assign body) (Nat.max (xs.length + 1 + us.length) fn.ntmps) n ci (frameOf 0 (xs ++ .top :: us) .lf) [xs.length] hp with
              | some (.nrm, _, ys, hp') => some (memB leftY ys, hp')
              | some (.ret, _, ys, hp') => some (memB leftY ys, hp')
              | _ => none) none
         | none => none)
       | none => none) none
  | _ => none

def scopeR (ex : Code → Tr → List Blk → Option (Ex × Tr × List Blk)) (a : Code) : Nat → Code → Tr → List Blk → Option (Ex × Tr × List Blk)
  | 0, _, _, _ => none
  | k + 1, c, t, hp =>
    match ex c t hp with
    | some (.goto l, t', hp') => (match findLabel a l with
      | some rest => scopeR ex a k rest t' hp'
      | none => some (.goto l, t', hp'))
    | r => r
def exV (P : Program) (run : FuncId → List AV → List Blk → Option (AV × List Blk)) (M : Mode) (N : Nat) : Nat → Code → Tr → List Blk → Option (Ex × Tr × List Blk)
  | 0, _, _, _ => none
  | n + 1, c, t, hp =>
    match c with
    | .skip | .label _ => some (.nrm, t, hp)
    | .region _ ops draw => (match regV P run M N ops draw t hp with | some (t', hp') => some (.nrm, t', hp') | none => none)
    | .seq a b => (match exV P run M N n a t hp with
      | some (.nrm, t', hp') => exV P run M N n b t' hp'
      | r => r)
    | .cond x a b => (match ev t x with
      | .p (.bool v) => cond v (exV P run M N n a t hp) (exV P run M N n b t hp)
      | _ => none)
    | .block id a => (match exV P run M N n a t hp with
      | some (.exit id', t', hp') => cond (Nat.beq id' id) (some (.nrm, t', hp')) (some (.exit id', t', hp'))
      | r => r)
    | .loop a => (match exV P run M N n a t hp with
      | some (.nrm, t', hp') => exV P run M N n (.loop a) t' hp'
      | r => r)
    | .exit id => some (.exit id, t, hp)
    | .goto l => some (.goto l, t, hp)
    | .scope a => scopeR (exV P run M N n) a n a t hp
    | .ret => some (.ret, t, hp)
    | .rangeFunc g ps c1 c2 => (match rangeE P run M N n g ps c1 c2 t hp with | some (false, hp') => some (.nrm, t, hp') | some (true, hp') => some (.ret, t, hp') | none => none)
    | _ => none

def resV (P : Program) (t : Tr) (hp : List Blk) : List ResultVar → Option (List AV)
  | [] => some []
  | .tmp i :: r => (match resV P t hp r with | some l => some (t.get i :: l) | none => none)
  | .cell i ty :: r => (match cellsAt hp (t.get i), resV P t hp r with
    | some (xs, k), some l => (match ld P ty xs k with | some v => some (v :: l) | none => none)
    | _, _ => none)

def gcV (n : Nat) (r : AV) (hp : List Blk) : Option (AV × List Blk) :=
  let js := reach hp 1000 (ids r ++ (hp.take n).flatMap fun b => cond b.row [] (b.cells.flatMap ids)) (List.range n)
  match pickB hp (posOf js) js with
  | some sub => some (ren (posOf js) r, sub)
  | none => none

def runV (P : Program) (M : Mode) : Nat → FuncId → List AV → List Blk → Option (AV × List Blk)
  | 0, _, _, _ => none
  | n + 1, f, args, hp =>
    match P.funcs[f]? with
    | none => none
    | some fn =>
      match fn.body with
      | none => none
      | some c =>
        cond (!(Nat.blt (Nat.max args.length fn.ntmps) 16383)) none <|
        match exV P (fun f args hp => match M.ov f with | some F => F args hp | none => runV P M n f args hp) M (Nat.max args.length fn.ntmps) n c (frameOf 0 args .lf) hp with
        | some (.nrm, t, hp') | some (.ret, t, hp') =>
          (match resV P t hp' fn.results.toList with
           | some [v] => gcV hp.length v hp'
           | some vs => gcV hp.length (.tup vs) hp'
           | none => none)
        | _ => none
end Go.Vm
