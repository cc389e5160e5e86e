/- From the program's loaded code to the code of the abstract machine: a translation that is computed, and that answers 'none' (or an operation that never goes through) where it does not serve. No condition. -/
import Derived.Test.YtemmnocgkgoegaaAm1
namespace Go.AM
open Go
noncomputable section

mutual
def absV : Value → Option AV
  | .int k n => some (.int k n)
  | .bool b => some (.bool b)
  | .string s => some (.str (s.data.toList.map (·.toNat)))
  | .pointer none => some .nilp
  | .slice none 0 0 => some .nils
  | .map none => some .nilm
  | .nilFunc => some .nilf
  | .nilIface => some .nili
  | .func (.func f) ⟨[]⟩ ⟨[]⟩ => some (.fn (.func f) [] [])
  | .agg ⟨cs⟩ => match absVs cs with | some l => some (.agg l) | none => none
  | .tuple ⟨cs⟩ => match absVs cs with | some l => some (.tup l) | none => none
  | _ => none
def absVs : List Value → Option (List AV)
  | [] => some []
  | v :: vs => match absV v with
    | some a => (match absVs vs with | some l => some (a :: l) | none => none)
    | none => none
end

def bad : AOp := .nilck (.lit .nilp)

def trOpd : Operand → Option AOpd
  | .tmp t => some (.tmp t)
  | .const v => match absV v with | some a => some (.lit a) | none => none
  | .global _ => none
  | .func f => some (.lit (.fn (.func f) [] []))

def trOpds : List Operand → Option (List AOpd)
  | [] => some []
  | x :: xs => match trOpd x, trOpds xs with | some a, some l => some (a :: l) | _, _ => none

def trO : Option Operand → Option (Option AOpd)
  | none => some none
  | some x => match trOpd x with | some a => some (some a) | none => none

/-- the zero value's cells, as far as the type is known -/
def zeroOf (P : Program) (t : TypeId) : Option (List AV) :=
  match P.info? t with
  | some i => match i.zero with
    | some z => absVs z.cells.toList
    | none => none
  | none => none
def zeroV (P : Program) (t : TypeId) : Option AV :=
  match P.info? t with
  | some i => match i.zero with
    | some z => absV z
    | none => none
  | none => none
def sizeT (P : Program) (t : TypeId) : Option Nat := match P.info? t with | some i => some i.size | none => none
def bytesT (P : Program) (t : TypeId) : Option Nat := match P.info? t with | some i => some i.bytes | none => none
def aggT (P : Program) (t : TypeId) : Option Bool :=
  match P.underlying t with
  | some (.struct _) => some true
  | some (.array _ _) => some true
  | some _ => some false
  | none => none
/-- how a variable of a type lies: one cell, or so many -/
def layT (P : Program) (t : TypeId) : Option (Option Nat) :=
  match aggT P t, sizeT P t with
  | some true, some n => some (some n)
  | some false, some _ => some none
  | _, _ => none

/-- a type whose values are equal just where their cells are: bools, integers, strings, and structs and arrays of such, field upon field -/
def flatT (P : Program) : Nat → TypeId → Option (List Nat)
  | 0, _ => none
  | d + 1, t =>
    match P.underlying t with
    | some .bool => some [0]
    | some (.int _) => some [1]
    | some .string => some [2]
    | some (.struct fs) => if P.stoodInHeld t then none else flatFs P (flatT P d) fs.toList
    | some (.array n e) => (match flatT P d e with | some ks => if sizeT P e = some ks.length then some (List.replicate n ks).flatten else none | none => none)
    | _ => none
where
  flatFs (P : Program) (f : TypeId → Option (List Nat)) : List Field → Option (List Nat)
  | [] => some []
  | x :: r => if x.name = "_" then none else match f x.type, flatFs P f r with
    | some ks, some l => if sizeT P x.type = some ks.length then some (ks ++ l) else none
    | _, _ => none

/-- the fields lie one behind the other, from an offset on -/
def packed (P : Program) : Nat → List Field → Bool
  | _, [] => true
  | o, f :: r => f.offset == o && (match sizeT P f.type with | some n => packed P (o + n) r | none => false)
def packedT (P : Program) : Nat → TypeId → Bool
  | 0, _ => false
  | d + 1, t =>
    match P.underlying t with
    | some (.struct fs) => packed P 0 fs.toList && fs.toList.all fun f => packedT P d f.type
    | some (.array _ e) => packedT P d e
    | some _ => true
    | none => false

def eqK (P : Program) (t : TypeId) : EqK :=
  match P.underlying t with
  | some .bool => .bool
  | some (.struct _) => flatE
  | some (.array _ _) => flatE
  | some (.pointer _) => .ref 0
  | some (.slice _) => .ref 1
  | some (.map _ _) => .ref 2
  | some (.func ..) => .ref 3
  | _ => .no
where flatE : EqK := match flatT P 5 t with
  | some ks => if packedT P 5 t = true ∧ P.eqGuardType P.depth t = false then .flat ks else .no
  | none => .no

/-- a key type of a map that is served -/
def keyT (P : Program) (t : TypeId) : Option KeyK :=
  match P.underlying t with
  | some (.int _) => some (.one 1)
  | some .string => some (.one 2)
  | some .bool => some (.one 0)
  | _ => none

def trParts (xs : List (Nat × Operand)) : Option (List (Nat × AOpd)) :=
  match xs with
  | [] => some []
  | (i, x) :: r => match trOpd x, trParts r with | some a, some l => some ((i, a) :: l) | _, _ => none

def partsS (P : Program) (fs : Array Field) : List (Nat × AOpd) → Option (List (Nat × Nat × AOpd))
  | [] => some []
  | (i, x) :: r => match fs[i]? with
    | some f => (match sizeT P f.type, partsS P fs r with | some n, some l => some ((f.offset, n, x) :: l) | _, _ => none)
    | none => none

def trCall (P : Program) (c : Call) : Option AOp :=
  match trOpds c.args.toList with
  | none => none
  | some args => match c.callee with
    | .value f => (match trOpd f with | some f => some (.call f args) | none => none)
    | .invoke _ _ => none
    | .builtin .append => (match args, c.argTypes.toList with
      | [s, x], [ts, tx] => (match P.underlying ts, P.underlying tx with
        | some (.slice e), some (.slice _) | some (.slice e), some .string => (match sizeT P e, bytesT P e, zeroOf P e with
          | some sz, some b, some z => if 1 ≤ sz ∧ 1 ≤ b ∧ z.length = sz then some (.append sz b z s x) else none
          | _, _, _ => none)
        | _, _ => none)
      | _, _ => none)
    | .builtin .copy => (match args, c.argTypes.toList with
      | [d, x], t :: _ => (match P.underlying t with
        | some (.slice e) => (match sizeT P e with | some sz => if 1 ≤ sz then some (.copy sz d x) else none | none => none)
        | _ => none)
      | _, _ => none)
    | .builtin .len => (match args, c.argTypes.toList with
      | [x], t :: _ => (match P.underlying t with
        | some (.array n _) => some (.lenA n)
        | some (.pointer a) => (match P.underlying a with | some (.array n _) => some (.lenA n) | _ => none)
        | some .string => some (.len 0 x)
        | some (.slice _) => some (.len 1 x)
        | some (.map _ _) => some (.len 2 x)
        | _ => none)
      | _, _ => none)
    | .builtin .max => some (.mx args)
    | .builtin .min => some (.mn args)
    | _ => none

def trOp (P : Program) (op : Op) : Option AOp :=
  match op with
  | .move x | .assign x => (match trOpd x with | some a => some (.mov a) | none => none)
  | .pick c a b => (match trOpd c, trOpd a, trOpd b with | some c, some a, some b => some (.pick c a b) | _, _, _ => none)
  | .alloc t => (match zeroOf P t with | some z => some (.alloc z) | none => none)
  | .box _ x => (match trOpd x with | some a => some (.box a) | none => none)
  | .build t ps => (match zeroOf P t, trParts ps.toList, P.underlying t with
    | some z, some l, some (.struct fs) => if fs.toList.all (fun f => (sizeT P f.type).isSome) = true then (match partsS P fs l with | some l => some (.build z l) | none => none) else none
    | some z, some l, some (.array _ e) => (match sizeT P e with | some sz => some (.build z (l.map fun p => (p.1 * sz, sz, p.2))) | none => none)
    | _, _, _ => none)
  | .buildSlice t n ps => (match P.underlying t, trParts ps.toList with
    | some (.slice e), some l => (match sizeT P e, zeroOf P e with
      | some sz, some z => if n * sz ≤ 16777216 ∧ 1 ≤ sz ∧ z.length = sz then some (.bslice n sz (repl n z) l) else none
      | _, _ => none)
    | _, _ => none)
  | .load t a => (match layT P t, trOpd a with | some n, some a => some (.load n a) | _, _ => none)
  | .store t a x => (match sizeT P t, trOpd a, trOpd x with | some n, some a, some x => some (.store n a x) | _, _, _ => none)
  | .nilCheck x => (match trOpd x with | some a => some (.nilck a) | none => none)
  | .binOp o t x y _ => (match trOpd x, trOpd y with | some x, some y => some (.bin o (eqK P t) x y) | _, _ => none)
  | .unOp o _ x => (match trOpd x with | some x => some (.un o x) | none => none)
  | .convert s d x => (match P.underlying s, P.underlying d, trOpd x with
    | some _, some (.int k), some x => some (.toInt k x)
    | some .string, some .string, some x => some (.substr x none none)
    | some .string, some (.slice e), some x => (match P.underlying e with | some (.int .u8) => some (.toBytes x) | _ => none)
    | some (.slice e), some .string, some x => (match P.underlying e with | some (.int .u8) => some (.toStr x) | _ => none)
    | _, _, _ => none)
  | .makeInterface t x => (match P.underlying t, trOpd x with
    | some (.interface _), _ => none
    | some _, some x => some (.iface t x)
    | _, _ => none)
  | .makeFunc (.func f) first captured => (match trOpds first.toList, trOpds captured.toList with | some a, some b => some (.mkfn (.func f) a b) | _, _ => none)
  | .makeMap _ none => some .mkmap
  | .makeSlice t l c => (match P.underlying t, trOpd l, trOpd c with
    | some (.slice e), some l, some c => (match sizeT P e, bytesT P e, zeroOf P e with
      | some sz, some b, some z => if 1 ≤ sz ∧ 1 ≤ b ∧ z.length = sz then some (.mkslice sz b z l c) else none
      | _, _, _ => none)
    | _, _, _ => none)
  | .slice t x lo hi mx => (match trOpd x, trO lo, trO hi, trO mx with
    | some x, some lo, some hi, some mx => (match P.underlying t with
      | some (.array n e) => (match sizeT P e with | some sz => some (.sliceA n sz x lo hi mx) | none => none)
      | some .string => (match mx with | none => some (.substr x lo hi) | some _ => none)
      | some (.slice e) => (match sizeT P e with | some sz => if 1 ≤ sz then some (.slice sz x lo hi mx) else none | none => none)
      | some (.pointer a) => (match P.underlying a with
        | some (.array n e) => (match sizeT P e with | some sz => some (.sliceA n sz x lo hi mx) | none => none)
        | _ => none)
      | _ => none)
    | _, _, _, _ => none)
  | .fieldAddr s x f => (match P.underlying s, trOpd x with
    | some (.struct fs), some x => (match fs[f]? with
      | some f => (match sizeT P f.type with | some (_ + 1) => some (.faddr f.offset x) | _ => none)
      | none => none)
    | _, _ => none)
  | .field t x f => (match P.underlying t, trOpd x with
    | some (.struct fs), some x => (match fs[f]? with
      | some f => (match layT P f.type with | some n => some (.field f.offset n x) | none => none)
      | none => none)
    | _, _ => none)
  | .indexAddr t x i => (match P.underlying t, trOpd x, trOpd i with
    | some (.array n e), some x, some i => (match sizeT P e with | some sz => some (.iaddr (some n) sz x i) | none => none)
    | some (.slice e), some x, some i => (match sizeT P e with | some sz => some (.iaddr none sz x i) | none => none)
    | _, _, _ => none)
  | .index t x i => (match P.underlying t, trOpd x, trOpd i with
    | some (.array n e), some x, some i => (match sizeT P e, layT P e with | some sz, some l => some (.index n sz l x i) | _, _ => none)
    | some .string, some x, some i => some (.indexS x i)
    | _, _, _ => none)
  | .lookup t m k ok => (match P.underlying t, trOpd m, trOpd k with
    | some (.map kt e), some m, some k => (match keyT P kt, zeroV P e with | some ks, some z => some (.lookup ks z ok m k) | _, _ => none)
    | _, _, _ => none)
  | .mapUpdate t m k v | .insert t m k v => (match P.underlying t, trOpd m, trOpd k, trOpd v with
    | some (.map kt _), some m, some k, some v => (match keyT P kt with | some ks => some (.mupd ks m k v) | none => none)
    | _, _, _, _ => none)
  | .extract x i => (match trOpd x with | some x => some (.extr i x) | none => none)
  | .call c => trCall P c
  | _ => none

def trOper (P : Program) (ops : Array Oper) (o : Oper) : Option AOper :=
  match o.guard with
  | none => some ⟨o.dst, (trOp P o.op).getD bad, none⟩
  | some (j, want) => match (ops[j]?).bind (·.dst) with
    | some t => some ⟨o.dst, (trOp P o.op).getD bad, some (t, want)⟩
    | none => none

def trOpers (P : Program) (ops : Array Oper) : List Oper → Option (List AOper)
  | [] => some []
  | o :: r => match trOper P ops o, trOpers P ops r with | some a, some l => some (a :: l) | _, _ => none

/-- the operations that look at the heap -/
def AOp.reads : AOp → Bool
  | .load .. | .toStr _ | .lookup .. | .len .. => true
  | .alloc _ | .box _ | .bslice .. | .mkslice .. | .mkmap | .toBytes _ => true
  | _ => false

/-- the temporaries that an operation looks at -/
def AOpd.temps : AOpd → List Nat
  | .tmp t => [t]
  | .lit _ => []
def tempsL : List AOpd → List Nat
  | [] => []
  | x :: r => x.temps ++ tempsL r
def tempsO : Option AOpd → List Nat
  | none => []
  | some x => x.temps
def tempsP : List (Nat × AOpd) → List Nat
  | [] => []
  | (_, x) :: r => x.temps ++ tempsP r
def tempsF : List (Nat × Nat × AOpd) → List Nat
  | [] => []
  | (_, _, x) :: r => x.temps ++ tempsF r
def AOp.temps : AOp → List Nat
  | .mov x | .box x | .load _ x | .nilck x | .un _ x | .toInt _ x | .toStr x | .toBytes x | .iface _ x | .faddr _ x | .field _ _ x | .extr _ x | .len _ x => x.temps
  | .bin _ _ x y | .store _ x y | .mkslice _ _ _ x y | .iaddr _ _ x y | .index _ _ _ x y | .indexS x y | .lookup _ _ _ x y | .append _ _ _ x y | .copy _ x y => x.temps ++ y.temps
  | .pick c x y => c.temps ++ (x.temps ++ y.temps)
  | .mupd _ m k v => m.temps ++ (k.temps ++ v.temps)
  | .alloc _ | .mkmap | .lenA _ => []
  | .build _ ps => tempsF ps
  | .bslice _ _ _ ps => tempsP ps
  | .mkfn _ fs cs => tempsL fs ++ tempsL cs
  | .slice _ x lo hi up | .sliceA _ _ x lo hi up => x.temps ++ (tempsO lo ++ (tempsO hi ++ tempsO up))
  | .substr x lo hi => x.temps ++ (tempsO lo ++ tempsO hi)
  | .call f args => f.temps ++ tempsL args
  | .mx xs | .mn xs => tempsL xs
def AOper.temps (o : AOper) : List Nat := match o.guard with | some (t, _) => t :: o.op.temps | none => o.op.temps

/-- is everything that operation j must come behind among 'listed' (bits)? -/
def readyB (ops : Array Oper) (listed : Nat) (j : Nat) : Bool :=
  match ops[j]? with
  | some o => o.after.all fun e => !Region.binds .any e || listed.testBit e.on
  | none => false

def isE (l : List AOper) (j : Nat) : Bool := match l[j]? with | some o => (match o.op.cls with | .e => true | _ => false) | none => false
/-- must i come before j? -/
def bitB (b : Array Nat) (i j : Nat) : Bool := (b.getD j 0).testBit i

/-- the next operation: one that turns no heap, if one is ready; else one that does -/
def pickNext (ops : Array Oper) (l : List AOper) (listed : Nat) : Option Nat :=
  match (List.range ops.size).find? fun j => !listed.testBit j && !isE l j && readyB ops listed j with
  | some j => some j
  | none => (List.range ops.size).find? fun j => !listed.testBit j && isE l j && readyB ops listed j

def orderB (ops : Array Oper) (l : List AOper) : Nat → Nat → Option (List Nat)
  | 0, _ => some []
  | k + 1, listed => match pickNext ops l listed with
    | some j => (match orderB ops l k (listed ||| 2 ^ j) with | some r => some (j :: r) | none => none)
    | none => none

/-- how many of the heap-turning operations behind place j in an order may come before it -/
def stays (l : List AOper) (b : Array Nat) (j : Nat) : List Nat → Nat
  | [] => 0
  | k :: r => bif isE l k then (bif bitB b j k then 0 else stays l b j r + 1) else stays l b j r

/-- the bits are closed: what must come before i is what its edges name, and what must come before that -/
def closedOk (ops : Array Oper) (b : Array Nat) : Bool :=
  (List.range ops.size).all fun i => match ops[i]? with
    | some o => (fun u : Nat => Nat.beq (b.getD i 0 ||| u) u) (o.after.foldl (fun u e => bif Region.binds .any e then u ||| (2 ^ e.on ||| b.getD e.on 0) else u) 0)
    | none => true

/-- each operation of the order has what it must come behind, ahead of it -/
def seqOk (ops : Array Oper) : Nat → List Nat → Bool
  | _, [] => true
  | s, j :: r => !s.testBit j && readyB ops s j && seqOk ops (s ||| 2 ^ j) r

def optEq : Option Nat → Option Nat → Bool
  | some a, some b => Nat.beq a b
  | _, _ => false
def looks (d : Option Nat) (ts : List Nat) : Bool := match d with | some d => ts.any (Nat.beq d) | none => false
def confl (x y : AOper) : Bool := looks x.dst y.temps || looks y.dst x.temps || optEq x.dst y.dst
def conflAt (l : List AOper) (i j : Nat) : Bool := match l[i]?, l[j]? with | some x, some y => confl x y | _, _ => true
/-- what turns the heap comes before all that is listed behind it; so do operations that speak of one temporary -/
def pairOk (l : List AOper) (b : Array Nat) : List Nat → Bool
  | [] => true
  | i :: r => (r.all fun j => bif isE l i || conflAt l i j then bitB b i j else true) && pairOk l b r

def orderOk (ops : Array Oper) (l : List AOper) (b : Array Nat) (c : List Nat) : Bool :=
  closedOk ops b && seqOk ops 0 c && (List.range ops.size).all (fun i => c.any (Nat.beq i)) && pairOk l b c

def trSeq (l : List AOper) (b : Array Nat) : List Nat → Option (List (AOper × Nat))
  | [] => some []
  | j :: r => match l[j]?, trSeq l b r with
    | some o, some t => some ((o, bif isE l j || !o.op.reads then 0 else stays l b j r) :: t)
    | _, _ => none

def trDraw (P : Program) (ops : Array Oper) : Option (List (AOper × Nat)) :=
  match trOpers P ops ops.toList with
  | none => none
  | some l =>
    match orderB ops l ops.size 0 with
    | none => none
    | some c => if orderOk ops l (Region.before ops) c = true then trSeq l (Region.before ops) c else none

def tr (P : Program) : Code → Option ACode
  | .skip => some .skip
  | .region _ ops false => (match trOpers P ops ops.toList with | some l => some (.ops l) | none => none)
  | .region _ ops true => (match trDraw P ops with | some l => some (.draw l) | none => none)
  | .seq a b => (match tr P a, tr P b with | some a, some b => some (.seq a b) | _, _ => none)
  | .cond c a b => (match trOpd c, tr P a, tr P b with | some c, some a, some b => some (.cond c a b) | _, _, _ => none)
  | .block id b => (match tr P b with | some b => some (.block id b) | none => none)
  | .loop b => (match tr P b with | some b => some (.loop b) | none => none)
  | .rangeFunc f ps a b => (match trOpd f, tr P a, tr P b with | some f, some a, some b => some (.rangeFunc f ps.toList a b) | _, _, _ => none)
  | .exit id => some (.exit id)
  | .scope b => (match tr P b with | some b => some (.scope b) | none => none)
  | .label _ => some .skip
  | .goto _ => none
  | .ret => some .ret
  | .refuse _ => none

def trRes (P : Program) : List ResultVar → Option (List ARes)
  | [] => some []
  | .tmp t :: r => (match trRes P r with | some l => some (.tmp t :: l) | none => none)
  | .cell a t :: r => (match layT P t, trRes P r with | some n, some l => some (.cell a n :: l) | _, _ => none)

def trFn (P : Program) (f : Func) : Option AFn :=
  match f.body with
  | some c => (match tr P c, trRes P f.results.toList with | some b, some rs => some ⟨f.ntmps, rs, b⟩ | _, _ => none)
  | none => none

end
end Go.AM
