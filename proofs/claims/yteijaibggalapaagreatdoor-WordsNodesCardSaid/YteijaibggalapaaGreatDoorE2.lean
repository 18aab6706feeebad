/-
  The resolved operations, how a function's code is resolved, and what the resolved operations do to abstract values.
-/
import Derived.Test.YteijaibggalapaaGreatDoorE1
namespace Go.Proofs.YteijaibggalapaaGreatDoor.E
open Go
set_option linter.unusedVariables false

inductive AArg where
  | t (n : Nat)
  | c (v : AV)

def ev (s : List AV) : AArg → AV
  | .t n => s.getD n .undef
  | .c v => v

inductive CK where
  | b | i | s
  deriving DecidableEq

inductive NK where
  | p | s | f | m
  deriving DecidableEq

/-- How keys of a map are held against each other: one cell, or a row of n. -/
inductive KK where
  | c (k : CK)
  | a (n : Nat) (k : CK)
  deriving DecidableEq

inductive MapOp where
  | get (kk : KK) (z : AV) (ok : Bool)
  | put (kk : KK)
  | del (kk : KK)
  | len
  | clr

inductive AOp where
  | mv (x : AArg)
  | pick (c a b : AArg)
  | alloc (z : List AV)
  | box (x : AArg)
  | build (z : List AV) (parts : List (Nat × Nat × AArg))
  | buildSlice (esz : Nat) (parts : List AArg)
  | load (agg : Bool) (n : Nat) (a : AArg)
  | loadG (g : Nat) (k : IntKind)
  | b2s (x : AArg)
  | s2b (x : AArg)
  | eqi (neg : Bool) (x : AArg)
  | mki (t : TypeId) (x : AArg)
  | store (n : Nat) (a v : AArg)
  | nilCheck (x : AArg)
  | bin (op : BinOp) (x y : AArg)
  | eqb (neg : Bool) (x y : AArg)
  | eqn (k : NK) (neg : Bool) (x y : AArg)
  | eqs (neg : Bool) (ks : List CK) (x y : AArg)
  | un (op : UnOp) (x : AArg)
  | conv (k : IntKind) (x : AArg)
  | makeFunc (f : FuncId) (caps : List AArg)
  | bindF (f : FuncId) (first : List AArg)
  | makeSlice (bytes : Nat) (z : List AV) (len cap : AArg)
  | slice (esz : Nat) (x : AArg) (lo hi mx : Option AArg)
  | field (agg : Bool) (off n : Nat) (x : AArg)
  | fieldAddr (off : Nat) (x : AArg)
  | indexAddr (esz : Nat) (x i : AArg)
  | indexArr (n esz : Nat) (x i : AArg)
  | cap (x : AArg)
  | extract (x : AArg) (i : Nat)
  | len (str : Bool) (x : AArg)
  | min (xs : List AArg)
  | max (xs : List AArg)
  | call (f : AArg) (args : List AArg)
  | append (esz bytes : Nat) (x y : AArg)
  | appendN (esz bytes : Nat) (z : List AV) (x n : AArg)
  | copy (esz : Nat) (x y : AArg)
  | clear (z : List AV) (x : AArg)
  | lit (esz : Nat) (parts : List AArg)
  | boxF (x : AArg)
  | storeF (n : Nat) (a v : AArg)
  | idxS (x i : AArg)
  | idxV (agg : Bool) (len esz : Nat) (x i : AArg)
  | sap (n : Nat) (x : AArg)
  | sliceS (x : AArg) (lo hi : Option AArg)
  | sliceP (len esz : Nat) (x : AArg) (lo hi mx : Option AArg)
  | mkMap
  | mapOp (mo : MapOp) (xs : List AArg)
  | rng (x : AArg)
  | nxt (x : AArg)
  | ent (x : AArg)
  | callY (f : AArg) (args : List AArg)
  | bad

structure AOper where
  dst : Option Nat
  op : AOp
  guard : Option (Nat × Bool)

/-! ### Resolving -/

def cst1 : Value → Option AV
  | .int k n => some (.int k n)
  | .bool b => some (.bool b)
  | .string s => some (.str s)
  | .pointer none => some .nilp
  | .slice none 0 0 => some .nils
  | .nilFunc => some .nilf
  | .map none => some .nilm
  | .nilIface => some .nili
  | _ => none

def csts : List Value → Option (List AV)
  | [] => some []
  | v :: l => match cst1 v, csts l with
    | some x, some xs => some (x :: xs)
    | _, _ => none

def cst : Value → Option AV
  | .agg cs => (csts cs.toList).map .agg
  | v => cst1 v

def cArg : Operand → Option AArg
  | .tmp t => some (.t t)
  | .const v => (cst v).map .c
  | .func f => some (.c (.fn f []))
  | .global g => some (.c (.gp g 0))

def cArgs : List Operand → Option (List AArg)
  | [] => some []
  | x :: l => match cArg x, cArgs l with
    | some y, some ys => some (y :: ys)
    | _, _ => none

def cOpt : Option Operand → Option (Option AArg)
  | none => some none
  | some x => (cArg x).map some

def tSize (P : Program) (t : TypeId) : Option Nat := (P.info? t).map (·.size)
def tZero (P : Program) (t : TypeId) : Option (List AV) :=
  match P.info? t with
  | some i => match i.zero with
    | some z => csts z.cells.toList
    | none => none
  | none => none
def tAgg (P : Program) (t : TypeId) : Option Bool :=
  match P.underlying t with
  | some (.struct _) | some (.array ..) => some true
  | some _ => some false
  | none => none
def tElem (P : Program) (t : TypeId) : Option TypeId :=
  match P.underlying t with
  | some (.slice e) => some e
  | _ => none
def tField (P : Program) (t : TypeId) (f : Nat) : Option Field :=
  match P.underlying t with
  | some (.struct fs) => fs[f]?
  | _ => none

/-- The parts of a literal: field number to place and size. -/
def cParts (P : Program) (t : TypeId) : List (Nat × Operand) → Option (List (Nat × Nat × AArg))
  | [] => some []
  | (i, x) :: l =>
    match tField P t i with
    | none => none
    | some f => match tSize P f.type, cArg x, cParts P t l with
      | some n, some y, some ys => some ((f.offset, n, y) :: ys)
      | _, _, _ => none

def cPartsA (n : Nat) : List (Nat × Operand) → Option (List (Nat × Nat × AArg))
  | [] => some []
  | (i, x) :: l => match cArg x, cPartsA n l with
    | some y, some ys => some ((i * n, n, y) :: ys)
    | _, _ => none

def tArr (P : Program) (t : TypeId) : Option (Nat × TypeId) :=
  match P.underlying t with
  | some (.array n e) => some (n, e)
  | _ => none

def cElems : Nat → List (Nat × Operand) → Option (List AArg)
  | _, [] => some []
  | k, (i, x) :: l => if i = k then (match cArg x, cElems (k + 1) l with
      | some y, some ys => some (y :: ys)
      | _, _ => none) else none

def ckOf (P : Program) (t : TypeId) : Option CK :=
  match P.underlying t with
  | some .bool => some .b
  | some (.int _) => some .i
  | some .string => some .s
  | _ => none

/-- The cells of a struct's fields, from place i on. -/
def fieldCells (P : Program) (f : TypeId → Option (List CK)) : Nat → List Field → Option (List CK)
  | _, [] => some []
  | i, fd :: l => if fd.offset = i ∧ fd.name ≠ "_" then (match f fd.type with
      | some k => if tSize P fd.type = some k.length then (fieldCells P f (i + k.length) l).map (k ++ ·) else none
      | none => none) else none

/-- The cells of a plain type: whole numbers, bools, strings, and arrays and structs of such. -/
def plainCells (P : Program) : Nat → TypeId → Option (List CK)
  | 0, _ => none
  | d + 1, t => match P.underlying t with
    | some .bool => some [.b]
    | some (.int _) => some [.i]
    | some .string => some [.s]
    | some (.array n e) => match plainCells P d e with
      | some k => if tSize P e = some k.length then some (List.replicate n k).flatten else none
      | none => none
    | some (.struct fs) => if P.stoodInHeld t = true then none else fieldCells P (plainCells P d) 0 fs.toList
    | _ => none

def plainStruct (P : Program) (t : TypeId) : Option (List CK) :=
  if tAgg P t = some true ∧ P.eqGuardType P.depth t = false then plainCells P 4 t else none

inductive EqKind where
  | bin | eqb | eqn (k : NK) | eqs (ks : List CK)

def eqKind (P : Program) (t : TypeId) : Option EqKind :=
  match P.underlying t with
  | some .bool => some .eqb
  | some (.int _) | some .string => some .bin
  | some (.pointer _) => some (.eqn .p)
  | some (.slice _) => some (.eqn .s)
  | some (.map ..) => some (.eqn .m)
  | some (.func ..) => some (.eqn .f)
  | some (.struct _) => (plainStruct P t).map .eqs
  | some (.array ..) => (plainStruct P t).map .eqs
  | _ => none

def kkOf (P : Program) (t : TypeId) : Option KK :=
  match P.underlying t with
  | some (.array n e) => match ckOf P e, tSize P e with
    | some k, some 1 => if n ≤ 9999 then some (.a n k) else none
    | _, _ => none
  | _ => (ckOf P t).map .c

def tMap (P : Program) (t : TypeId) : Option (KK × TypeId × TypeId) :=
  match P.underlying t with
  | some (.map k e) => (kkOf P k).map fun kk => (kk, k, e)
  | _ => none

/-- The value of a type that nothing was laid into. -/
def tZeroV (P : Program) (t : TypeId) : Option AV :=
  match P.info? t with
  | some i => match i.zero with
    | some z => cst z
    | none => none
  | none => none

def cBuiltin (P : Program) (b : Builtin) (args : List Operand) (argTypes : Array TypeId) : Option AOp :=
  match b, args with
  | .len, [x] => match (argTypes[0]?).bind P.underlying, cArg x with
    | some (.slice _), some y => some (.len false y)
    | some .string, some y => some (.len true y)
    | some (.map ..), some y => some (.mapOp .len [y])
    | _, _ => none
  | .cap, [x] => match (argTypes[0]?).bind P.underlying, cArg x with
    | some (.slice _), some y => some (.cap y)
    | _, _ => none
  | .min, xs => match xs, cArgs xs with | _ :: _, some ys => some (.min ys) | _, _ => none
  | .max, xs => match xs, cArgs xs with | _ :: _, some ys => some (.max ys) | _, _ => none
  | .append, [x, y] =>
    match (argTypes[0]?).bind (tElem P), (argTypes[1]?).bind (tElem P), cArg x, cArg y with
    | some e, some _, some x', some y' => match P.info? e with
      | some i => if (i.zero.any fun z => z.cells.size == i.size) && i.bytes != 0 then some (.append i.size i.bytes x' y') else none
      | none => none
    | some e, none, some x', some y' => match (argTypes[1]?).bind P.underlying, P.info? e, tZero P e with
      | some (.int _), some i, some z => if i.size != 0 && i.bytes != 0 && z.length == i.size then some (.appendN i.size i.bytes z x' y') else none
      | _, _, _ => none
    | _, _, _, _ => none
  | .copy, [x, y] =>
    match (argTypes[0]?).bind (tElem P), (argTypes[1]?).bind (tElem P), cArg x, cArg y with
    | some e, some _, some x', some y' => match tSize P e with
      | some n => some (.copy n x' y')
      | none => none
    | _, _, _, _ => none
  | .clear, [x] =>
    match (argTypes[0]?).bind (tElem P), cArg x with
    | some e, some x' => match tZero P e with
      | some z => some (.clear z x')
      | none => none
    | _, _ => match (argTypes[0]?).bind P.underlying, cArg x with
      | some (.map ..), some y => some (.mapOp .clr [y])
      | _, _ => none
  | .delete, [x, k] => match (argTypes[0]?).bind (tMap P), cArg x, cArg k with
    | some (kk, _, _), some x', some k' => some (.mapOp (.del kk) [x', k'])
    | _, _, _ => none
  | _, _ => none

/-- A named package variable of which nothing is told. -/
def gOf : Operand → Option (Nat × IntKind)
  | .global g => (gAny g).map fun k => (g, k)
  | _ => none

def isNilI : Operand → Bool
  | .const .nilIface => true
  | _ => false

/-- Whole numbers' types. -/
def isI (P : Program) (t : TypeId) : Bool := match P.underlying t with
  | some (.int _) => true
  | _ => false
def isIfc (P : Program) (t : TypeId) : Bool :=
  match P.underlying t with
  | some (.interface _) => true
  | _ => false

def isBytes (P : Program) (t : TypeId) : Bool :=
  match P.underlying t with
  | some (.slice e) => (match P.underlying e with | some (.int .u8) => true | _ => false)
  | _ => false

def isStr (P : Program) (t : TypeId) : Bool :=
  match P.underlying t with
  | some .string => true
  | _ => false

def cOp0 (P : Program) : Op → Option AOp
  | .move x | .assign x => (cArg x).map .mv
  | .pick c a b => match cArg c, cArg a, cArg b with | some c, some a, some b => some (.pick c a b) | _, _, _ => none
  | .alloc t => (tZero P t).map .alloc
  | .box _ x => (cArg x).map .box
  | .build t ps => match P.underlying t, tZero P t, cParts P t ps.toList with
    | some (.struct fs), some z, some ps => if fs.toList.all (fun f => (tSize P f.type).isSome) then some (.build z ps) else none
    | _, _, _ => match tArr P t, tZero P t with
      | some (_, e), some z => match tSize P e with
        | some n => (cPartsA n ps.toList).map (.build z)
        | none => none
      | _, _ => none
  | .buildSlice t n ps => match tElem P t with
    | some e => match tSize P e, cElems 0 ps.toList with
      | some k, some ys => if ys.length = n && n * k ≤ 16777216 && (n * k = 0 || (tZero P e).any (·.length == k)) then some (.buildSlice k ys) else none
      | _, _ => none
    | none => none
  | .load t x => match gOf x, tAgg P t with
    | some (g, k), some false => some (.loadG g k)
    | _, _ => match tAgg P t, tSize P t, cArg x with | some g, some n, some y => some (.load g n y) | _, _, _ => none
  | .store t x v => match tSize P t, cArg x, cArg v with | some n, some y, some u => some (.store n y u) | _, _, _ => none
  | .nilCheck x => (cArg x).map .nilCheck
  | .binOp op t x0 y0 _ => match cArg x0, cArg y0 with
    | some x, some y => match op with
      | .eql => match eqKind P t with
        | some .bin => some (.bin .eql x y)
        | some .eqb => some (.eqb false x y)
        | some (.eqn k) => some (.eqn k false x y)
        | some (.eqs n) => some (.eqs false n x y)
        | none => if isIfc P t && isNilI y0 then some (.eqi false x) else none
      | .neq => match eqKind P t with
        | some .bin => some (.bin .neq x y)
        | some .eqb => some (.eqb true x y)
        | some (.eqn k) => some (.eqn k true x y)
        | some (.eqs n) => some (.eqs true n x y)
        | none => if isIfc P t && isNilI y0 then some (.eqi true x) else none
      | op => some (.bin op x y)
    | _, _ => none
  | .unOp op _ x => (cArg x).map (.un op)
  | .makeInterface t x => if isI P t then (cArg x).map (.mki t) else none
  | .convert t d x => match P.underlying d, cArg x with
    | some (.int k), some y => if (P.underlying t).isSome then some (.conv k y) else none
    | some .string, some y => if isBytes P t then some (.b2s y) else none
    | some (.slice _), some y => if isBytes P d && isStr P t then some (.s2b y) else none
    | _, _ => none
  | .makeFunc (.func f) first caps => if first.isEmpty then (cArgs caps.toList).map (.makeFunc f) else if caps.isEmpty then (cArgs first.toList).map (.bindF f) else none
  | .makeSlice t l c => match tElem P t with
    | some e => match P.info? e, tZero P e, cArg l, cArg c with
      | some i, some z, some l, some c => if z.length = i.size then some (.makeSlice i.bytes z l c) else none
      | _, _, _, _ => none
    | none => none
  | .slice t x lo hi mx => match tElem P t with
    | some e => match tSize P e, cArg x, cOpt lo, cOpt hi, cOpt mx with
      | some n, some x, some lo, some hi, some mx => some (.slice n x lo hi mx)
      | _, _, _, _, _ => none
    | none => match tArr P t with
      | some (m, e) => match tSize P e, cArg x, cOpt lo, cOpt hi, cOpt mx with
        | some n, some x, some lo, some hi, some mx => some (.sliceP m n x lo hi mx)
        | _, _, _, _, _ => none
      | none => match P.underlying t, mx, cArg x, cOpt lo, cOpt hi with
        | some .string, none, some x, some lo, some hi => some (.sliceS x lo hi)
        | _, _, _, _, _ => none
  | .field t x f => match tField P t f, cArg x with
    | some fd, some y => match tAgg P fd.type, tSize P fd.type with
      | some g, some n => some (.field g fd.offset n y)
      | _, _ => none
    | _, _ => none
  | .fieldAddr t x f => match tField P t f, cArg x with
    | some fd, some y => match tSize P fd.type with
      | some (_ + 1) => some (.fieldAddr fd.offset y)
      | _ => none
    | _, _ => none
  | .indexAddr t x i => match tElem P t with
    | some e => match tSize P e, cArg x, cArg i with
      | some n, some x, some i => some (.indexAddr n x i)
      | _, _, _ => none
    | none => match tArr P t with
      | some (m, e) => match tSize P e, cArg x, cArg i with
        | some n, some x, some i => some (.indexArr m n x i)
        | _, _, _ => none
      | none => none
  | .index t x i => match P.underlying t, cArg x, cArg i with
    | some .string, some x, some i => some (.idxS x i)
    | some (.array m e), some x, some i => match tAgg P e, tSize P e with
      | some g, some n => some (.idxV g m n x i)
      | _, _ => none
    | _, _, _ => none
  | .sliceToArrayPointer t x => match tArr P t, cArg x with
    | some (n, _), some y => some (.sap n y)
    | _, _ => none
  | .makeMap _ none => some .mkMap
  | .lookup t x k ok => match tMap P t, cArg x, cArg k with
    | some (kk, _, e), some x, some k => (tZeroV P e).map fun z => .mapOp (.get kk z ok) [x, k]
    | _, _, _ => none
  | .mapUpdate t x k v => match tMap P t, cArg x, cArg k, cArg v with
    | some (kk, _, _), some x, some k, some v => some (.mapOp (.put kk) [x, k, v])
    | _, _, _, _ => none
  | .insert t x k v => match tMap P t, cArg x, cArg k, cArg v with
    | some (kk, _, _), some x, some k, some v => some (.mapOp (.put kk) [x, k, v])
    | _, _, _, _ => none
  | .extract x i => (cArg x).map (.extract · i)
  | .call { callee := .value f, args, .. } => match cArg f, cArgs args.toList with
    | some f, some xs => some (.call f xs)
    | _, _ => none
  | .call { callee := .builtin b, args, argTypes } => cBuiltin P b args.toList argTypes
  | _ => none

/-- What is not resolved must not be reached. -/
def cOp (P : Program) (o : Op) : Option AOp := some ((cOp0 P o).getD .bad)
theorem cOp_or {P : Program} {o : Op} {ao : AOp} (h : cOp P o = some ao) : cOp0 P o = some ao ∨ ao = .bad := by
  unfold cOp at h
  cases e : cOp0 P o with
  | none => rw [e] at h; cases h; exact .inr rfl
  | some x => rw [e] at h; cases h; exact .inl rfl

/-- Literals that nobody writes to stand still; 'F' names the slots of those that are written to, of the boxes that are not, and of the variables that are written to once, at their beginning. -/
def fzOp (F : List Nat) (d : Option Nat) : AOp → Option Nat × AOp
  | .buildSlice n ps => if (d.any fun t => F.contains t) then (d, .buildSlice n ps) else (d, .lit n ps)
  | .box x => if (d.any fun t => F.contains t) then (d, .boxF x) else (d, .box x)
  | .store n (.t p) v => if F.contains p && d.isNone then (some p, .storeF n (.t p) v) else (d, .store n (.t p) v)
  | o => (d, o)

def cOper (P : Program) (F : List Nat) (ops : Array Oper) (o : Oper) : Option AOper :=
  match cOp P o.op with
  | none => none
  | some a => match o.guard with
    | none => some ⟨(fzOp F o.dst a).1, (fzOp F o.dst a).2, none⟩
    | some (j, want) => match (ops[j]?).bind (·.dst) with
      | some t => if (fzOp F o.dst a).1 = o.dst then some ⟨o.dst, (fzOp F o.dst a).2, some (t, want)⟩ else none
      | none => none

def cOpers (P : Program) (F : List Nat) (ops : Array Oper) : List Oper → Option (List AOper)
  | [] => some []
  | o :: l => match cOper P F ops o, cOpers P F ops l with
    | some a, some as => some (a :: as)
    | _, _ => none

/-! ### What the pure ones yield -/

def cellsOf : AV → Option (List AV)
  | .agg cs => some cs
  | .tup _ => none
  | .undef => none
  | v => some [v]

/-- May the value be stored into one cell? -/
def scalar : AV → Bool
  | .agg _ | .tup _ | .undef => false
  | _ => true

def splice (cs : List AV) (off : Nat) (l : List AV) : List AV := cs.take off ++ l ++ cs.drop (off + l.length)

def fillA (s : List AV) : List AV → List (Nat × Nat × AArg) → Option (List AV)
  | cs, [] => some cs
  | cs, (off, n, x) :: rest =>
    match cellsOf (ev s x) with
    | some l => if l.length = n ∧ off + n ≤ cs.length then fillA s (splice cs off l) rest else none
    | none => none

def catA (s : List AV) (esz : Nat) : List AArg → Option (List AV)
  | [] => some []
  | x :: rest => match cellsOf (ev s x), catA s esz rest with
    | some l, some r => if l.length = esz then some (l ++ r) else none
    | _, _ => none

def binA (op : BinOp) : AV → AV → Option AV
  | .int k a, .int k' b =>
    match op with
    | .shl => if b < 0 then none else some (.int k (k.wrap (a * 2 ^ (min b.toNat k.bits))))
    | .shr => if b < 0 then none else some (.int k (a.fdiv (2 ^ (min b.toNat k.bits))))
    | _ => if k = k' then (match op with
      | .add => some (.int k (k.wrap (a + b)))
      | .sub => some (.int k (k.wrap (a - b)))
      | .mul => some (.int k (k.wrap (a * b)))
      | .quo => if b = 0 then none else some (.int k (k.wrap (a.tdiv b)))
      | .rem => if b = 0 then none else some (.int k (a.tmod b))
      | .and => some (.int k (k.wrap ((BitVec.ofInt k.bits a &&& BitVec.ofInt k.bits b).toNat : Int)))
      | .or => some (.int k (k.wrap ((BitVec.ofInt k.bits a ||| BitVec.ofInt k.bits b).toNat : Int)))
      | .xor => some (.int k (k.wrap ((BitVec.ofInt k.bits a ^^^ BitVec.ofInt k.bits b).toNat : Int)))
      | .andNot => some (.int k (k.wrap ((BitVec.ofInt k.bits a &&& ~~~ BitVec.ofInt k.bits b).toNat : Int)))
      | .eql => some (.bool (decide (a = b)))
      | .neq => some (.bool (!decide (a = b)))
      | .lss => some (.bool (decide (a < b)))
      | .leq => some (.bool (decide (a ≤ b)))
      | .gtr => some (.bool (decide (b < a)))
      | .geq => some (.bool (decide (b ≤ a)))
      | _ => none) else none
  | .str a, .str b =>
    match op with
    | .add => if Nat.ble (a.size + b.size) 9223372036854775807 = true then some (.str (a ++ b)) else none
    | .eql => some (.bool (a.toList == b.toList))
    | .neq => some (.bool (!(a.toList == b.toList)))
    | _ => none
  | _, _ => none

/-- Held against nil. -/
def nilA : NK → AV → AV → Option Bool
  | .p, .nilp, .nilp | .s, .nils, .nils | .f, .nilf, .nilf | .m, .nilm, .nilm => some true
  | .p, .ptr .., .nilp | .p, .nilp, .ptr .. | .p, .rp _, .nilp | .p, .nilp, .rp _ => some false
  | .s, .sl .., .nils | .s, .nils, .sl .. | .s, .rz, .nils | .s, .nils, .rz => some false
  | .s, .ro _ (_ + 1) _, .nils | .s, .nils, .ro _ (_ + 1) _ => some false
  | .f, .fn .., .nilf | .f, .nilf, .fn .. => some false
  | .m, .map _, .nilm | .m, .nilm, .map _ => some false
  | _, _, _ => none

def eqCell : CK → AV → AV → Option Bool
  | .i, .int k a, .int k' b => if k = k' then some (decide (a = b)) else none
  | .b, .bool a, .bool b => some (a == b)
  | .s, .str a, .str b => some (a == b)
  | _, _, _ => none

def eqCells : List CK → List AV → List AV → Option Bool
  | [], [], [] => some true
  | k :: ks, x :: xs, y :: ys => match eqCell k x y, eqCells ks xs ys with
    | some a, some b => some (a && b)
    | _, _ => none
  | _, _, _ => none

/-- A slice expression's bound: at most y; d where it is left out. -/
def bnd (x : Option AV) (y d : Nat) : Option Nat :=
  match x with
  | none => some d
  | some (.int _ m) => if 0 ≤ m ∧ m ≤ (y : Int) then some m.toNat else none
  | some _ => none

def sliceA (esz : Nat) (x : AV) (lo hi mx : Option AV) : Option AV :=
  if mx.isSome && hi.isNone then none else
  match x with
  | .sl id off len cap =>
    match bnd mx cap cap with
    | none => none
    | some m => match bnd hi m len with
      | none => none
      | some h => match bnd lo h 0 with
        | none => none
        | some l => some (.sl id (if m = l then off else off + l * esz) (h - l) (m - l))
  | .ro cs len ex =>
    match bnd mx len len with
    | none => none
    | some m => match bnd hi m len with
      | none => none
      | some h => match bnd lo h 0 with
        | none => none
        | some l => some (.ro ((cs.drop (l * esz)).take ((h - l) * esz)) (h - l) (if mx.isSome then h == m else ex && h == len))
  | .nils =>
    match bnd mx 0 0, bnd hi 0 0, bnd lo 0 0 with
    | some _, some _, some _ => some .nils
    | _, _, _ => none
  | .rz =>
    match bnd mx 0 0, bnd hi 0 0, bnd lo 0 0 with
    | some _, some _, some _ => some (.ro [] 0 mx.isSome)
    | _, _, _ => none
  | _ => none

/-- A part of a string. -/
def strA (b : ByteArray) (lo hi : Option AV) : Option AV :=
  match bnd hi b.size b.size with
  | none => none
  | some h => match bnd lo h 0 with
    | none => none
    | some l => some (.str (b.extract l h))

/-- A slice of an array. -/
def arrA (n esz : Nat) (x : AV) (lo hi mx : Option AV) : Option AV :=
  if mx.isSome && hi.isNone then none else
  match bnd mx n n with
  | none => none
  | some m => match bnd hi m n with
    | none => none
    | some h => match bnd lo h 0 with
      | none => none
      | some l => match x with
        | .ptr id off => some (.sl id (if m = l then off else off + l * esz) (h - l) (m - l))
        | .rp cs => some (.ro ((cs.drop (l * esz)).take ((h - l) * esz)) (h - l) (h == m))
        | _ => none

def lenA : Bool → AV → Option AV
  | false, .sl _ _ n _ | false, .ro _ n _ => some (.int .i64 n)
  | false, .nils | false, .rz => some (.int .i64 0)
  | true, .str s => some (.int .i64 s.size)
  | _, _ => none

def minA : AV → List AV → Option AV
  | x, [] => some x
  | .int k x, .int _ y :: r => minA (.int k (if y < x then y else x)) r
  | _, _ => none
def maxA : AV → List AV → Option AV
  | x, [] => some x
  | .int k x, .int _ y :: r => maxA (.int k (if x < y then y else x)) r
  | _, _ => none

/-- A string's bytes as cells. -/
def bcells (b : ByteArray) : List AV := b.data.toList.map fun c => .int .u8 c.toNat

/-- What an operation yields that looks at no memory. -/
def pv (s : List AV) : AOp → Option AV
  | .mv x => some (ev s x)
  | .pick c a b => match ev s c with
    | .bool t => some (if t then ev s a else ev s b)
    | _ => none
  | .build z ps => (fillA s z ps).map .agg
  | .nilCheck x => match ev s x with
    | .ptr a b => some (.ptr a b)
    | .gp a b => some (.gp a b)
    | .rp cs => some (.rp cs)
    | .fn f c => some (.fn f c)
    | .bd f c => some (.bd f c)
    | _ => none
  | .bin op x y => binA op (ev s x) (ev s y)
  | .s2b x => match ev s x with
    | .str b => some (.ro (bcells b) b.size false)
    | _ => none
  | .mki t x => some (.iface t (ev s x))
  | .eqi neg x => match ev s x with
    | .nili => some (.bool (!neg))
    | .iface _ _ => some (.bool neg)
    | _ => none
  | .eqb neg x y => match ev s x, ev s y with
    | .bool a, .bool b => some (.bool (neg ^^ (a == b)))
    | _, _ => none
  | .eqn k neg x y => (nilA k (ev s x) (ev s y)).map fun b => .bool (neg ^^ b)
  | .eqs neg ks x y => match ev s x, ev s y with
    | .agg a, .agg b => (eqCells ks a b).map fun b => .bool (neg ^^ b)
    | _, _ => none
  | .un op x => match op, ev s x with
    | .neg, .int k n => some (.int k (k.wrap (0 - n)))
    | .not, .bool b => some (.bool (!b))
    | _, _ => none
  | .conv k x => match ev s x with
    | .int _ n => some (.int k (k.wrap n))
    | _ => none
  | .makeFunc f caps => some (.fn f (caps.map (ev s)))
  | .bindF f first => some (.bd f (first.map (ev s)))
  | .slice esz x lo hi mx => sliceA esz (ev s x) (lo.map (ev s)) (hi.map (ev s)) (mx.map (ev s))
  | .field g off n x => match ev s x with
    | .agg cs => if g then (if off + n ≤ cs.length then some (.agg ((cs.drop off).take n)) else none) else cs[off]?
    | _ => none
  | .fieldAddr off x => match ev s x with
    | .ptr a o => some (.ptr a (o + off))
    | .gp a o => some (.gp a (o + off))
    | .rp cs => some (.rp (cs.drop off))
    | _ => none
  | .indexAddr esz x i => match ev s x, ev s i with
    | .sl id off len _, .int _ n => if 0 ≤ n ∧ n < (len : Int) then some (.ptr id (off + n.toNat * esz)) else none
    | .ro cs len _, .int _ n => if 0 ≤ n ∧ n < (len : Int) then some (.rp (cs.drop (n.toNat * esz))) else none
    | _, _ => none
  | .indexArr len esz x i => match ev s x, ev s i with
    | .ptr id off, .int _ n => if 0 ≤ n ∧ n < (len : Int) then some (.ptr id (off + n.toNat * esz)) else none
    | .gp id off, .int _ n => if 0 ≤ n ∧ n < (len : Int) then some (.gp id (off + n.toNat * esz)) else none
    | .rp cs, .int _ n => if 0 ≤ n ∧ n < (len : Int) then some (.rp (cs.drop (n.toNat * esz))) else none
    | _, _ => none
  | .cap x => match ev s x with
    | .sl _ _ _ c => some (.int .i64 c)
    | .nils => some (.int .i64 0)
    | .ro _ n true => some (.int .i64 n)
    | _ => none
  | .extract x i => match ev s x with
    | .tup vs => vs[i]?
    | _ => none
  | .len g x => lenA g (ev s x)
  | .min xs => match xs.map (ev s) with
    | x :: r => minA x r
    | [] => none
  | .max xs => match xs.map (ev s) with
    | x :: r => maxA x r
    | [] => none
  | .lit esz ps => (catA s esz ps).map fun l => .ro l ps.length true
  | .idxS x i => match ev s x, ev s i with
    | .str b, .int _ n => if 0 ≤ n then (b[n.toNat]?).map fun c => .int .u8 c.toNat else none
    | _, _ => none
  | .idxV g m n x i => match ev s x, ev s i with
    | .agg cs, .int _ k => if 0 ≤ k ∧ k < (m : Int) then (if g then (if k.toNat * n + n ≤ cs.length then some (.agg ((cs.drop (k.toNat * n)).take n)) else none) else cs[k.toNat * n]?) else none
    | _, _ => none
  | .boxF x => (cellsOf (ev s x)).map .rp
  | .sap n x => match ev s x with
    | .sl id off len _ => if n ≤ len then some (.ptr id off) else none
    | .ro cs len _ => if n ≤ len ∧ 0 < len then some (.rp cs) else none
    | _ => none
  | .sliceS x lo hi => match ev s x with
    | .str b => strA b (lo.map (ev s)) (hi.map (ev s))
    | _ => none
  | .sliceP n esz x lo hi mx => arrA n esz (ev s x) (lo.map (ev s)) (hi.map (ev s)) (mx.map (ev s))
  | _ => none

def isPure : AOp → Bool
  | .alloc _ | .box _ | .buildSlice .. | .load .. | .loadG .. | .b2s .. | .store .. | .makeSlice .. | .call .. | .append .. | .appendN .. | .copy .. | .clear .. | .mkMap | .mapOp .. => false
  | _ => true

/-- Reading. -/
def aload (h : AHeap) : AV → Option AV
  | .ptr id off => match h id with
    | some (.cells cs _) => cs[off]?
    | _ => none
  | .gp g off => match globs g with
    | some cs => cs[off]?
    | none => none
  | .rp cs => cs.head?
  | _ => none
def aloads (h : AHeap) (n : Nat) : AV → Option (List AV)
  | .ptr id off => match h id with
    | some (.cells cs _) => if off + n ≤ cs.length then some ((cs.drop off).take n) else none
    | _ => none
  | .rp cs => if n ≤ cs.length then some (cs.take n) else none
  | _ => none

end Go.Proofs.YteijaibggalapaaGreatDoor.E
