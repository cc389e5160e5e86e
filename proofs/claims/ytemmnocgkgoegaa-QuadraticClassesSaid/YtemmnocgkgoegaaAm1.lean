/- What the abstract machine 'AM' computes: operations, regions, code, calls. Plain functions; no program in sight. No condition. -/
import Derived.Test.YtemmnocgkgoegaaAm0
set_option linter.unusedVariables false
namespace Go.AM
open Go

noncomputable def nth (l : List AV) : Nat → AV :=
  List.rec (motive := fun _ => Nat → AV) (fun _ => aundef) (fun x _ ih n => Nat.rec (motive := fun _ => AV) x (fun m _ => ih m) n) l
theorem nth_nil (n : Nat) : nth [] n = aundef := rfl
theorem nth_zero (x : AV) (xs : List AV) : nth (x :: xs) 0 = x := rfl
theorem nth_succ (x : AV) (xs : List AV) (n : Nat) : nth (x :: xs) (n + 1) = nth xs n := rfl
noncomputable def put (l : List AV) : Nat → AV → List AV :=
  List.rec (motive := fun _ => Nat → AV → List AV) (fun _ _ => []) (fun x xs ih n v => Nat.rec (motive := fun _ => List AV) (v :: xs) (fun m _ => x :: ih m v) n) l
theorem put_nil (n : Nat) (v : AV) : put [] n v = [] := rfl
theorem put_zero (x : AV) (xs : List AV) (v : AV) : put (x :: xs) 0 v = v :: xs := rfl
theorem put_succ (x : AV) (xs : List AV) (n : Nat) (v : AV) : put (x :: xs) (n + 1) v = x :: put xs n v := rfl

noncomputable def ev (tm : List AV) (x : AOpd) : AV := AOpd.rec (motive := fun _ => List AV → AV) (fun t tm => nth tm t) (fun v _ => v) x tm
theorem ev_tmp (tm : List AV) (t : Nat) : ev tm (.tmp t) = nth tm t := rfl
theorem ev_lit (tm : List AV) (v : AV) : ev tm (.lit v) = v := rfl
noncomputable def evs (tm : List AV) : List AOpd → List AV
  | [] => []
  | x :: xs => ev tm x :: evs tm xs

/-- n cells of a row from an offset on -/
noncomputable def cut (l : List AV) : Nat → Nat → Option (List AV) :=
  List.rec (motive := fun _ => Nat → Nat → Option (List AV))
    (fun o n => Nat.rec (motive := fun _ => Option (List AV)) (Nat.rec (motive := fun _ => Option (List AV)) (some []) (fun _ _ => none) n) (fun _ _ => none) o)
    (fun x _ ih o n => Nat.rec (motive := fun _ => Option (List AV))
      (Nat.rec (motive := fun _ => Option (List AV)) (some []) (fun m _ => Option.rec (motive := fun _ => Option (List AV)) none (fun r => some (x :: r)) (ih 0 m)) n)
      (fun o' _ => ih o' n) o) l
theorem cut_zero (l : List AV) : cut l 0 0 = some [] := by cases l <;> rfl
theorem cut_nil (o n : Nat) : cut [] o n = if o = 0 ∧ n = 0 then some [] else none := by cases o <;> cases n <;> simp <;> rfl
theorem cut_cons (x : AV) (xs : List AV) (n : Nat) : cut (x :: xs) 0 (n + 1) = (match cut xs 0 n with | some r => some (x :: r) | none => none) := by
  show Option.rec (motive := fun _ => Option (List AV)) none (fun r => some (x :: r)) (cut xs 0 n) = _
  cases cut xs 0 n <;> rfl
theorem cut_succ (x : AV) (xs : List AV) (o n : Nat) : cut (x :: xs) (o + 1) n = cut xs o n := rfl
/-- cells laid over a row from an offset on -/
noncomputable def lay (l : List AV) : Nat → List AV → Option (List AV) :=
  List.rec (motive := fun _ => Nat → List AV → Option (List AV))
    (fun o vs => Nat.rec (motive := fun _ => Option (List AV)) (List.rec (motive := fun _ => Option (List AV)) (some []) (fun _ _ _ => none) vs) (fun _ _ => none) o)
    (fun x xs ih o vs => Nat.rec (motive := fun _ => Option (List AV))
      (List.rec (motive := fun _ => Option (List AV)) (some (x :: xs)) (fun v vs' _ => Option.rec (motive := fun _ => Option (List AV)) none (fun r => some (v :: r)) (ih 0 vs')) vs)
      (fun o' _ => Option.rec (motive := fun _ => Option (List AV)) none (fun r => some (x :: r)) (ih o' vs)) o) l
theorem lay_zero (l : List AV) : lay l 0 [] = some l := by cases l <;> rfl
theorem lay_nil (o : Nat) (vs : List AV) : lay [] o vs = if o = 0 ∧ vs = [] then some [] else none := by cases o <;> cases vs <;> simp <;> rfl
theorem lay_cons (x v : AV) (xs vs : List AV) : lay (x :: xs) 0 (v :: vs) = (match lay xs 0 vs with | some r => some (v :: r) | none => none) := by
  show Option.rec (motive := fun _ => Option (List AV)) none (fun r => some (v :: r)) (lay xs 0 vs) = _
  cases lay xs 0 vs <;> rfl
theorem lay_succ (x : AV) (xs vs : List AV) (o : Nat) : lay (x :: xs) (o + 1) vs = (match lay xs o vs with | some r => some (x :: r) | none => none) := by
  show Option.rec (motive := fun _ => Option (List AV)) none (fun r => some (x :: r)) (lay xs o vs) = _
  cases lay xs o vs <;> rfl
noncomputable def repl (n : Nat) (z : List AV) : List AV := Nat.rec (motive := fun _ => List AV) [] (fun _ ih => z ++ ih) n
theorem repl_zero (z : List AV) : repl 0 z = [] := rfl
theorem repl_succ (n : Nat) (z : List AV) : repl (n + 1) z = z ++ repl n z := rfl
def drops : List AV → Nat → List AV
  | l, 0 => l
  | [], _ + 1 => []
  | _ :: xs, n + 1 => drops xs n

noncomputable def fit (n : Option Nat) : Nat → List AV → Option AV :=
  match n with
  | none => fun off cs => match cut cs off 1 with | some [v] => some v | _ => none
  | some n => fun off cs => match cut cs off n with | some r => some (.agg r) | none => none

/-- 'IntKind.wrap', with the powers written out, and at once where nothing is to be wrapped -/
def awrap (k : IntKind) : Int → Int :=
  match k with
  | .u8 => fun n => n % 256
  | .u16 => fun n => n % 65536
  | .u32 => fun n => n % 4294967296
  | .u64 => fun n => n % 18446744073709551616
  | .i8 => fun n => if n % 256 ≥ 128 then n % 256 - 256 else n % 256
  | .i16 => fun n => if n % 65536 ≥ 32768 then n % 65536 - 65536 else n % 65536
  | .i32 => fun n => if n % 4294967296 ≥ 2147483648 then n % 4294967296 - 4294967296 else n % 4294967296
  | .i64 => fun n => match n with
    | .ofNat a => bif Nat.blt a 9223372036854775808 then .ofNat a else (if (a : Int) % 18446744073709551616 ≥ 9223372036854775808 then (a : Int) % 18446744073709551616 - 18446744073709551616 else (a : Int) % 18446744073709551616)
    | .negSucc a => bif Nat.blt a 9223372036854775808 then .negSucc a else (if (Int.negSucc a) % 18446744073709551616 ≥ 9223372036854775808 then (Int.negSucc a) % 18446744073709551616 - 18446744073709551616 else (Int.negSucc a) % 18446744073709551616)
/-- '<' on integers, by the constructors -/
def ilt : Int → Int → Bool
  | .ofNat a, .ofNat b => Nat.blt a b
  | .ofNat _, .negSucc _ => false
  | .negSucc _, .ofNat _ => true
  | .negSucc a, .negSucc b => Nat.blt b a
def ieq : Int → Int → Bool
  | .ofNat a, .ofNat b => Nat.beq a b
  | .negSucc a, .negSucc b => Nat.beq a b
  | _, _ => false
def keq : IntKind → IntKind → Bool
  | .i8, .i8 | .i16, .i16 | .i32, .i32 | .i64, .i64 | .u8, .u8 | .u16, .u16 | .u32, .u32 | .u64, .u64 => true
  | _, _ => false
def kbits : IntKind → Nat
  | .u8 | .i8 => 8
  | .u16 | .i16 => 16
  | .u32 | .i32 => 32
  | .u64 | .i64 => 64
/-- a number's bits, as a natural number -/
def kmod (k : IntKind) (n : Int) : Nat :=
  match k with
  | .u8 | .i8 => (n % 256).toNat
  | .u16 | .i16 => (n % 65536).toNat
  | .u32 | .i32 => (n % 4294967296).toNat
  | .u64 | .i64 => (n % 18446744073709551616).toNat
def kmask : IntKind → Nat
  | .u8 | .i8 => 255
  | .u16 | .i16 => 65535
  | .u32 | .i32 => 4294967295
  | .u64 | .i64 => 18446744073709551615

def ibits (op : BinOp) (k : IntKind) (x y : Int) : Option AV :=
  match op with
  | .and => some (.int k (awrap k ((Nat.land (kmod k x) (kmod k y) : Nat) : Int)))
  | .or => some (.int k (awrap k ((Nat.lor (kmod k x) (kmod k y) : Nat) : Int)))
  | .xor => some (.int k (awrap k ((Nat.xor (kmod k x) (kmod k y) : Nat) : Int)))
  | .andNot => some (.int k (awrap k ((Nat.land (kmod k x) (kmask k - kmod k y) : Nat) : Int)))
  | _ => none

def arith (f : Int → Int → Int) (x y : AV) : Option AV :=
  match x, y with
  | .int k a, .int k' b => bif keq k k' then some (.int k (awrap k (f a b))) else none
  | _, _ => none
def icmp (f : Int → Int → Bool) (x y : AV) : Option AV :=
  match x, y with
  | .int k a, .int k' b => bif keq k k' then some (.bool (f a b)) else none
  | _, _ => none

def ishift (left : Bool) (k : IntKind) (x y : Int) : Option AV :=
  if y < 0 then none else
  if left then some (.int k (awrap k (x * ((2 ^ (min y.toNat (kbits k)) : Nat) : Int)))) else some (.int k (x.fdiv ((2 ^ (min y.toNat (kbits k)) : Nat) : Int)))

def less : List Nat → List Nat → Bool
  | _, [] => false
  | [], _ :: _ => true
  | a :: x, b :: y => decide (a < b) || (Nat.beq a b && less x y)

def sbin (op : BinOp) (a b : List Nat) : Option AV :=
  match op with
  | .add => if a.length + b.length ≤ 4611686018427387904 then some (.str (a ++ b)) else none
  | .eql => some (.bool (decide (a = b)))
  | .neq => some (.bool (!decide (a = b)))
  | .lss => some (.bool (less a b))
  | .leq => some (.bool (less a b || decide (a = b)))
  | .gtr => some (.bool (!(less a b || decide (a = b))))
  | .geq => some (.bool (!less a b))
  | _ => none

def eqCell (k : Nat) (x y : AV) : Option Bool :=
  match x, y with
  | .int q a, .int q' b => bif Nat.beq k 1 && keq q q' then some (ieq a b) else none
  | .bool a, .bool b => bif Nat.beq k 0 then some (a == b) else none
  | .str a, .str b => bif Nat.beq k 2 then some (decide (a = b)) else none
  | _, _ => none
def eqCells : List Nat → List AV → List AV → Option Bool
  | [], [], [] => some true
  | k :: ks, x :: xs, y :: ys => match eqCell k x y with
    | some true => eqCells ks xs ys
    | r => r
  | _, _, _ => none

/-- two references of one kind, one of them nil: are both? -/
def eqRef (k : Nat) (x y : AV) : Option Bool :=
  match x, y with
  | .nilp, .nilp => bif Nat.beq k 0 then some true else none
  | .nilp, .ptr .. => bif Nat.beq k 0 then some false else none
  | .ptr .., .nilp => bif Nat.beq k 0 then some false else none
  | .nils, .nils => bif Nat.beq k 1 then some true else none
  | .nils, .slice .. => bif Nat.beq k 1 then some false else none
  | .slice .., .nils => bif Nat.beq k 1 then some false else none
  | .nilm, .nilm => bif Nat.beq k 2 then some true else none
  | .nilm, .map .. => bif Nat.beq k 2 then some false else none
  | .map .., .nilm => bif Nat.beq k 2 then some false else none
  | .nilf, .nilf => bif Nat.beq k 3 then some true else none
  | .nilf, .fn .. => bif Nat.beq k 3 then some false else none
  | .fn .., .nilf => bif Nat.beq k 3 then some false else none
  | _, _ => none

def eqv (e : EqK) (x y : AV) : Option Bool :=
  match e with
  | .no => none
  | .bool => match x, y with
    | .bool a, .bool b => some (a == b)
    | _, _ => none
  | .flat ks => match x, y with
    | .agg a, .agg b => if a.length = ks.length ∧ b.length = ks.length then eqCells ks a b else none
    | _, _ => none
  | .ref k => eqRef k x y

def ibits2 (op : BinOp) (x y : AV) : Option AV :=
  match x, y with
  | .int k a, .int k' b => bif keq k k' then ibits op k a b else none
  | _, _ => none

def bin (op : BinOp) : EqK → AV → AV → Option AV :=
  match op with
  | .add => fun _ x y => match x, y with
    | .str a, .str b => sbin .add a b
    | x, y => arith (· + ·) x y
  | .sub => fun _ x y => arith (· - ·) x y
  | .mul => fun _ x y => arith (· * ·) x y
  | .quo => fun _ x y => match x, y with
    | .int k a, .int k' b => bif keq k k' then (bif ieq b 0 then none else some (.int k (awrap k (a.tdiv b)))) else none
    | _, _ => none
  | .rem => fun _ x y => match x, y with
    | .int k a, .int k' b => bif keq k k' then (bif ieq b 0 then none else some (.int k (a.tmod b))) else none
    | _, _ => none
  | .shl => fun _ x y => match x, y with
    | .int k a, .int _ b => ishift true k a b
    | _, _ => none
  | .shr => fun _ x y => match x, y with
    | .int k a, .int _ b => ishift false k a b
    | _, _ => none
  | .eql => fun e x y => match x, y with
    | .int k a, .int k' b => bif keq k k' then some (.bool (ieq a b)) else none
    | .str a, .str b => some (.bool (decide (a = b)))
    | x, y => match eqv e x y with | some b => some (.bool b) | none => none
  | .neq => fun e x y => match x, y with
    | .int k a, .int k' b => bif keq k k' then some (.bool (!ieq a b)) else none
    | .str a, .str b => some (.bool (!decide (a = b)))
    | x, y => match eqv e x y with | some b => some (.bool (!b)) | none => none
  | .lss => fun _ x y => match x, y with
    | .str a, .str b => sbin .lss a b
    | x, y => icmp ilt x y
  | .leq => fun _ x y => match x, y with
    | .str a, .str b => sbin .leq a b
    | x, y => icmp (fun a b => !ilt b a) x y
  | .gtr => fun _ x y => match x, y with
    | .str a, .str b => sbin .gtr a b
    | x, y => icmp (fun a b => ilt b a) x y
  | .geq => fun _ x y => match x, y with
    | .str a, .str b => sbin .geq a b
    | x, y => icmp (fun a b => !ilt a b) x y
  | op => fun _ x y => ibits2 op x y

def un (op : UnOp) (x : AV) : Option AV :=
  match op, x with
  | .neg, .int k n => some (.int k (awrap k (0 - n)))
  | .xor, .int k n => ibits .xor k (-1) n
  | .not, .bool b => some (.bool !b)
  | _, _ => none

def bytesOf : List AV → Option (List Nat)
  | [] => some []
  | .int .u8 n :: r => match bytesOf r with | some l => some (n.toNat % 256 :: l) | none => none
  | _ => none
def ofBytes : List Nat → List AV
  | [] => []
  | b :: r => .int .u8 b :: ofBytes r

noncomputable def fills (z : List AV) (ps : List (Nat × Nat × AOpd)) (tm : List AV) : Option (List AV) :=
  match ps with
  | [] => some z
  | (off, n, x) :: r => if (ev tm x).cells.length = n then match lay z off (ev tm x).cells with | some z' => fills z' r tm | none => none else none

noncomputable def optInt (tm : List AV) : Option AOpd → Option (Option Int)
  | none => some none
  | some x => match ev tm x with | .int _ n => some (some n) | _ => none

/-- the bounds of a slice expression: low, high, max -/
def bounds (len cap : Nat) (lo hi mx : Option Int) : Option (Nat × Nat × Nat) :=
  match (match mx with | some m => if 0 ≤ m ∧ m ≤ cap then some m.toNat else none | none => some cap) with
  | none => none
  | some m => match (match hi, mx with | some h, _ => if 0 ≤ h ∧ h ≤ m then some h.toNat else none | none, none => some len | none, some _ => none) with
    | none => none
    | some h => match (match lo with | some l => if 0 ≤ l ∧ l ≤ h then some l.toNat else none | none => some 0) with
      | none => none
      | some l => some (l, h, m)

def sl (sz : Nat) (x : AV) (lo hi mx : Option Int) : Option AV :=
  match x with
  | .nils => match bounds 0 0 lo hi mx with | some _ => some .nils | none => none
  | .slice i o len (.exact c) => match bounds len c lo hi mx with
    | some (l, h, m) => some (.slice i (if m = l then o else o + l * sz) (h - l) (.exact (m - l)))
    | none => none
  | .slice i o len (.opn s) => if s = sz then match mx with
    | none => match bounds len len lo hi none with
      | some (l, h, _) => some (.slice i (o + l * sz) (h - l) (.opn s))
      | none => none
    | some _ => if len = 0 then none else match bounds len len lo hi mx with
      | some (l, h, m) => some (.slice i (if m = l then o else o + l * sz) (h - l) (.exact (m - l)))
      | none => none
    else none
  | _ => none

noncomputable def cellsOf (h : AHeap) (i : Nat) : Option (List AV) := match h.get i with | some (.cells c _) => some c | _ => none
noncomputable def ownOf (h : AHeap) (i : Nat) : Option (List AV) := match h.get i with | some (.cells c true) => some c | _ => none

/-- what is appended or copied: how many elements, and their cells -/
noncomputable def srcOf (sz : Nat) (x : AV) (h : AHeap) : Option (Nat × List AV) :=
  match x with
  | .nils => some (0, [])
  | .slice j o n _ => match cellsOf h j with
    | some c => match cut c o (n * sz) with | some r => bif r.all AV.scalar then some (n, r) else none | none => none
    | none => none
  | .str s => if sz = 1 then some (s.length, ofBytes s) else none
  | _ => none

def keyEq (ks : KeyK) (x y : AV) : Option Bool :=
  match ks with
  | .one k => eqCell k x y
  | .flat ks => match x, y with
    | .agg a, .agg b => if a.length = ks.length ∧ b.length = ks.length then eqCells ks a b else none
    | _, _ => none
def findKey (ks : KeyK) (k : AV) : List (AV × AV) → Nat → Option (Option (Nat × AV))
  | [], _ => some none
  | (k', v) :: r, i => match keyEq ks k k' with
    | some true => some (some (i, v))
    | some false => findKey ks k r (i + 1)
    | none => none
def setAt : List (AV × AV) → Nat → AV → AV → List (AV × AV)
  | [], _, _, _ => []
  | _ :: r, 0, k, v => (k, v) :: r
  | e :: r, n + 1, k, v => e :: setAt r n k v

def maxs : AV → List AV → Option AV
  | x, [] => some x
  | .int k x, .int k' y :: r => if k = k' then maxs (.int k (if y > x then y else x)) r else none
  | _, _ => none
def mins : AV → List AV → Option AV
  | x, [] => some x
  | .int k x, .int k' y :: r => if k = k' then mins (.int k (if y < x then y else x)) r else none
  | _, _ => none

/-- the operations that turn no heap -/
noncomputable def evalQ (op : AOp) : List AV → AHeap → Option AV :=
  match op with
  | .mov x => fun tm h => some (ev tm x)
  | .pick c a b => fun tm h => match ev tm c with | .bool t => some (bif t then ev tm a else ev tm b) | _ => none
  | .build z ps => fun tm h => match fills z ps tm with | some c => some (.agg c) | none => none
  | .load n a => fun tm h => match ev tm a with
    | .ptr i o => match cellsOf h i with | some c => fit n o c | none => none
    | _ => none
  | .nilck x => fun tm h => match ev tm x with
    | .ptr i o => some (.ptr i o)
    | .fn (.func f) a b => some (.fn (.func f) a b)
    | .fn (.yield l) a b => some (.fn (.yield l) a b)
    | _ => none
  | .bin op e x y => fun tm h => bin op e (ev tm x) (ev tm y)
  | .un op x => fun tm h => un op (ev tm x)
  | .toInt k x => fun tm h => match ev tm x with | .int _ n => some (.int k (awrap k n)) | _ => none
  | .toStr x => fun tm h => match ev tm x with
    | .nils => some (.str [])
    | .slice i o n _ => match cellsOf h i with
      | some c => match cut c o n with
        | some r => match bytesOf r with | some l => some (.str l) | none => none
        | none => none
      | none => none
    | _ => none
  | .iface t x => fun tm h => some (.iface t (ev tm x))
  | .mkfn f fs cs => fun tm h => some (.fn f (evs tm fs) (evs tm cs))
  | .slice sz x lo hi mx => fun tm h => match optInt tm lo, optInt tm hi, optInt tm mx with
    | some l, some h, some m => sl sz (ev tm x) l h m
    | _, _, _ => none
  | .sliceA n sz x lo hi mx => fun tm h => match optInt tm lo, optInt tm hi, optInt tm mx, ev tm x with
    | some l, some h, some m, .ptr i o => match bounds n n l h m with
      | some (l, h, m) => some (.slice i (if m = l then o else o + l * sz) (h - l) (.exact (m - l)))
      | none => none
    | _, _, _, _ => none
  | .substr x lo hi => fun tm h => match optInt tm lo, optInt tm hi, ev tm x with
    | some l, some h, .str s => match bounds s.length s.length l h none with
      | some (l, h, _) => some (.str ((s.drop l).take (h - l)))
      | none => none
    | _, _, _ => none
  | .faddr off x => fun tm h => match ev tm x with | .ptr i o => some (.ptr i (o + off)) | _ => none
  | .field off n x => fun tm h => match ev tm x with | .agg cs => fit n off cs | _ => none
  | .iaddr none sz x i => fun tm h => match ev tm x, ev tm i with
    | .slice j o len _, .int _ i => if 0 ≤ i ∧ i < len then some (.ptr j (o + i.toNat * sz)) else none
    | _, _ => none
  | .iaddr (some len) sz x i => fun tm h => match ev tm x, ev tm i with
    | .ptr j o, .int _ i => if 0 ≤ i ∧ i < len then some (.ptr j (o + i.toNat * sz)) else none
    | _, _ => none
  | .index len sz n x i => fun tm h => match ev tm x, ev tm i with
    | .agg cs, .int _ i => if 0 ≤ i ∧ i < len then fit n (i.toNat * sz) cs else none
    | _, _ => none
  | .indexS x i => fun tm h => match ev tm x, ev tm i with
    | .str s, .int _ i => if 0 ≤ i then match s[i.toNat]? with | some b => some (.int .u8 b) | none => none else none
    | _, _ => none
  | .lookup ks zero ok m k => fun tm h => match ev tm m with
    | .nilm => some (if ok then .tup [zero, .bool false] else zero)
    | .map i => match h.get i with
      | some (.map es) => match findKey ks (ev tm k) es 0 with
        | some (some (_, v)) => some (if ok then .tup [v, .bool true] else v)
        | some none => some (if ok then .tup [zero, .bool false] else zero)
        | none => none
      | _ => none
    | _ => none
  | .extr i x => fun tm h => match ev tm x with | .tup vs => vs[i]? | _ => none
  | .len k x => fun tm h => match k, ev tm x with
    | 0, .str s => some (.int .i64 s.length)
    | 1, .nils => some (.int .i64 0)
    | 1, .slice _ _ n _ => some (.int .i64 n)
    | 2, .nilm => some (.int .i64 0)
    | 2, .map i => match h.get i with | some (.map es) => some (.int .i64 es.length) | _ => none
    | _, _ => none
  | .lenA n => fun tm h => some (.int .i64 n)
  | .mx xs => fun tm h => match evs tm xs with | x :: r => maxs x r | [] => none
  | .mn xs => fun tm h => match evs tm xs with | x :: r => mins x r | [] => none
  | _ => fun tm h => none

noncomputable def fillsS (sz : Nat) (z : List AV) (ps : List (Nat × AOpd)) (tm : List AV) : Option (List AV) :=
  match ps with
  | [] => some z
  | (i, x) :: r => if (ev tm x).cells.length = sz then match lay z (i * sz) (ev tm x).cells with | some z' => fillsS sz z' r tm | none => none else none

/-- the operations that make one new object: its cells, and the value -/
noncomputable def evalA (op : AOp) : List AV → AHeap → Option (AObj × AV) :=
  match op with
  | .alloc z => fun tm h => some (.cells z true, .ptr h.next 0)
  | .box x => fun tm h => some (.cells (ev tm x).cells true, .ptr h.next 0)
  | .bslice len sz z ps => fun tm h => match fillsS sz z ps tm with | some c => some (.cells c true, .slice h.next 0 len (.exact len)) | none => none
  | .mkslice _ bytes z l c => fun tm h => match ev tm l, ev tm c with
    | .int _ l, .int _ c => if 0 ≤ l ∧ l ≤ c ∧ c * bytes ≤ 140737488355328 then some (.cells (repl c.toNat z) true, .slice h.next 0 l.toNat (.exact c.toNat)) else none
    | _, _ => none
  | .mkmap => fun tm h => some (.map [], .map h.next)
  | .toBytes x => fun tm h => match ev tm x with
    | .str s => some (.cells (ofBytes s) true, .slice h.next 0 s.length (.opn 1))
    | _ => none
  | _ => fun tm h => none

inductive Callee where
  | fn (f : Nat)
  | yield (l : Nat)

/-- the operations that turn the heap, and calls -/
noncomputable def evalE (op : AOp) : (Callee → List AV → AHeap → Option (AV × AHeap)) → List AV → AHeap → Option (AV × AHeap) :=
  match op with
  | .store n a x => fun call tm h => match ev tm a with
    | .ptr i o => match ownOf h i with
      | some c => if (ev tm x).cells.length = n ∧ (ev tm x).cells.all AV.scalar = true then match lay c o (ev tm x).cells with
          | some c' => some (aundef, h.set i (.cells c' true))
          | none => none
        else none
      | none => none
    | _ => none
  | .mupd ks m k v => fun call tm h => match ev tm m with
    | .map i => match h.get i with
      | some (.map es) => match findKey ks (ev tm k) es 0 with
        | some (some (j, _)) => some (aundef, h.set i (.map (setAt es j (ev tm k) (ev tm v))))
        | some none => some (aundef, h.set i (.map (es ++ [(ev tm k, ev tm v)])))
        | none => none
      | _ => none
    | _ => none
  | .call f args => fun call tm h => match ev tm f with
    | .fn (.func g) first captured => call (.fn g) (first ++ evs tm args ++ captured) h
    | .fn (.yield l) first captured => match first, captured with
      | [], [] => call (.yield l) (evs tm args) h
      | _, _ => none
    | _ => none
  | .append sz bytes _ s x => fun call tm h => match srcOf sz (ev tm x) h with
    | none => none
    | some (n, new) => match ev tm s with
      | .nils => if n = 0 then some (.nils, h) else
        if n * bytes ≤ 140737488355328 then some (.slice h.next 0 n (.opn sz), h.push (.cells new true)) else none
      | .slice i o len (.exact c) =>
        if len + n ≤ c then
          if n = 0 then some (.slice i o len (.exact c), h) else
          match ownOf h i with
          | some cs => match lay cs (o + len * sz) new with
            | some cs' => some (.slice i o (len + n) (.exact c), h.set i (.cells cs' true))
            | none => none
          | none => none
        else if (len + n) * bytes ≤ 140737488355328 then match cellsOf h i with
          | some cs => match cut cs o (len * sz) with
            | some old => some (.slice h.next 0 (len + n) (.opn sz), h.push (.cells (old ++ new) true))
            | none => none
          | none => none
        else none
      | .slice i o len (.opn z) => if z = sz ∧ (len + n) * bytes ≤ 140737488355328 then match ownOf h i with
          | some cs =>
            if o + (len + n) * sz ≤ cs.length then match lay cs (o + len * sz) new with
              | some cs' => some (.slice i o (len + n) (.opn z), h.set i (.cells cs' true))
              | none => none
            else if o + len * sz = cs.length then some (.slice h.next 0 (len + n) (.opn sz), (h.del i).push (.cells (drops cs o ++ new) true))
            else none
          | none => none
        else none
      | _ => none
  | .copy sz d x => fun call tm h => match ev tm d, srcOf sz (ev tm x) h with
    | .nils, some _ => some (.int .i64 0, h)
    | .slice i o len _, some (n, new) =>
      if min n len = 0 then some (.int .i64 0, h) else
      match ownOf h i, cut new 0 (min n len * sz) with
      | some cs, some new' => match lay cs o new' with
        | some cs' => some (.int .i64 (min n len : Nat), h.set i (.cells cs' true))
        | none => none
      | _, _ => none
    | _, _ => none
  | _ => fun call tm h => none

inductive Cls where
  | q
  | a
  | e
  deriving DecidableEq
def AOp.cls : AOp → Cls
  | .alloc _ | .box _ | .bslice .. | .mkslice .. | .mkmap | .toBytes _ => .a
  | .store .. | .mupd .. | .call .. | .append .. | .copy .. => .e
  | _ => .q

structure St where
  tm : List AV
  h : AHeap
  deriving Inhabited

noncomputable def putD (tm : List AV) (d : Option Nat) (v : AV) : List AV := match d with | some t => put tm t v | none => tm

/-- one operation -/
abbrev CallT := Callee → List AV → AHeap → Option (AV × AHeap)

noncomputable def step1 (o : AOper) (call : CallT) (s : St) : Option St :=
  AOper.rec (motive := fun _ => CallT → St → Option St) (fun dst op _ call s =>
    Cls.rec (motive := fun _ => Option Nat → AOp → CallT → St → Option St)
      (fun dst op _ s => Option.rec (motive := fun _ => Option St) none (fun v => some ⟨putD s.tm dst v, s.h⟩) (evalQ op s.tm s.h))
      (fun dst op _ s => Option.rec (motive := fun _ => Option St) none (fun p => some ⟨putD s.tm dst p.2, s.h.push p.1⟩) (evalA op s.tm s.h))
      (fun dst op call s => Option.rec (motive := fun _ => Option St) none (fun p => some ⟨putD s.tm dst p.1, p.2⟩) (evalE op call s.tm s.h)) op.cls dst op call s) o call s
theorem step1_q {o : AOper} {call : CallT} {s : St} (h : o.op.cls = .q) : step1 o call s = (match evalQ o.op s.tm s.h with | some v => some ⟨putD s.tm o.dst v, s.h⟩ | none => none) := by
  cases o; dsimp only at h; simp only [step1, h]; cases evalQ _ s.tm s.h <;> rfl
theorem step1_a {o : AOper} {call : CallT} {s : St} (h : o.op.cls = .a) : step1 o call s = (match evalA o.op s.tm s.h with | some (b, v) => some ⟨putD s.tm o.dst v, s.h.push b⟩ | none => none) := by
  cases o; dsimp only at h; simp only [step1, h]; cases evalA _ s.tm s.h <;> rfl
theorem step1_e {o : AOper} {call : CallT} {s : St} (h : o.op.cls = .e) : step1 o call s = (match evalE o.op call s.tm s.h with | some (v, h') => some ⟨putD s.tm o.dst v, h'⟩ | none => none) := by
  cases o; dsimp only at h; simp only [step1, h]; cases evalE _ call s.tm s.h <;> rfl

/-- is the operation carried out? (the value of its guard) -/
noncomputable def wanted (tm : List AV) (g : Option (Nat × Bool)) : Bool :=
  Option.rec (motive := fun _ => Bool) true (fun p => match nth tm p.1 with | .bool b => b == p.2 | _ => false) g

noncomputable def runOps (l : List AOper) : CallT → St → Option St :=
  List.rec (motive := fun _ => CallT → St → Option St) (fun _ s => some s)
    (fun o _ ih call s => Bool.rec (motive := fun _ => Option St)
      (ih call ⟨putD s.tm o.dst aundef, s.h⟩)
      (Option.rec (motive := fun _ => Option St) none (fun s' => ih call s') (step1 o call s)) (wanted s.tm o.guard)) l
theorem runOps_nil (call : CallT) (s : St) : runOps [] call s = some s := rfl
theorem runOps_cons (o : AOper) (r : List AOper) (call : CallT) (s : St) :
    runOps (o :: r) call s = if wanted s.tm o.guard = true then (match step1 o call s with | some s' => runOps r call s' | none => none) else runOps r call ⟨putD s.tm o.dst aundef, s.h⟩ := by
  show Bool.rec (motive := fun _ => Option St) (runOps r call ⟨putD s.tm o.dst aundef, s.h⟩) (Option.rec (motive := fun _ => Option St) none (fun s' => runOps r call s') (step1 o call s)) (wanted s.tm o.guard) = _
  cases wanted s.tm o.guard
  · simp
  · cases step1 o call s <;> simp

def AObj.beqC : Option AObj → AObj → Bool
  | some (.cells c r), .cells c' r' => AV.beqs c c' && (r == r')
  | some (.map []), .map [] => true
  | _, _ => false

/-- what an operation that may be carried out later must still find -/
noncomputable def recheck (o : AOper) (tm : List AV) (h : AHeap) (v : AV) (h' : AHeap) : Bool :=
  match o.op.cls with
  | .q => match evalQ o.op tm h' with | some v' => AV.beq v' v | none => false
  | .a => match evalA o.op tm h with | some (b, _) => AObj.beqC (h'.get h.next) b | none => false
  | .e => true

def checks : List ((AHeap → Bool) × Nat) → AHeap → Bool
  | [], _ => true
  | (_, 0) :: r, h => checks r h
  | (f, _ + 1) :: r, h => bif f h then checks r h else false
def lower : List ((AHeap → Bool) × Nat) → List ((AHeap → Bool) × Nat)
  | [] => []
  | (_, 0) :: r => lower r
  | (_, 1) :: r => lower r
  | (f, n + 2) :: r => (f, n + 1) :: lower r

/-- a region whose order is open, in one order; what could have gone otherwise is checked -/
noncomputable def runDraw (l : List (AOper × Nat)) : CallT → St → List ((AHeap → Bool) × Nat) → Option St :=
  List.rec (motive := fun _ => CallT → St → List ((AHeap → Bool) × Nat) → Option St) (fun _ s _ => some s)
    (fun p _ ih call s ps => Bool.rec (motive := fun _ => Option St)
      (ih call ⟨putD s.tm p.1.dst aundef, s.h⟩ (match p.1.op.cls with | .e => lower ps | _ => ps))
      (Option.rec (motive := fun _ => Option St) none (fun s' => match p.1.op.cls with
        | .e => bif checks ps s'.h then ih call s' (lower ps) else none
        | _ => match p.2 with
          | 0 => ih call s' ps
          | n + 1 => ih call s' ((recheck p.1 s.tm s.h (match p.1.dst with | some d => nth s'.tm d | none => aundef), n + 1) :: ps)) (step1 p.1 call s)) (wanted s.tm p.1.guard)) l
theorem runDraw_nil (call : CallT) (s : St) (ps : List ((AHeap → Bool) × Nat)) : runDraw [] call s ps = some s := rfl
theorem runDraw_cons (o : AOper) (n : Nat) (r : List (AOper × Nat)) (call : CallT) (s : St) (ps : List ((AHeap → Bool) × Nat)) :
    runDraw ((o, n) :: r) call s ps = if wanted s.tm o.guard = true then (match step1 o call s with
      | some s' => (match o.op.cls with
        | .e => bif checks ps s'.h then runDraw r call s' (lower ps) else none
        | _ => match n with
          | 0 => runDraw r call s' ps
          | n + 1 => runDraw r call s' ((recheck o s.tm s.h (match o.dst with | some d => nth s'.tm d | none => aundef), n + 1) :: ps))
      | none => none) else runDraw r call ⟨putD s.tm o.dst aundef, s.h⟩ (match o.op.cls with | .e => lower ps | _ => ps) := by
  show Bool.rec (motive := fun _ => Option St) (runDraw r call ⟨putD s.tm o.dst aundef, s.h⟩ (match o.op.cls with | .e => lower ps | _ => ps))
      (Option.rec (motive := fun _ => Option St) none (fun s' => match o.op.cls with
        | .e => bif checks ps s'.h then runDraw r call s' (lower ps) else none
        | _ => match n with
          | 0 => runDraw r call s' ps
          | n + 1 => runDraw r call s' ((recheck o s.tm s.h (match o.dst with | some d => nth s'.tm d | none => aundef), n + 1) :: ps)) (step1 o call s)) (wanted s.tm o.guard) = _
  cases wanted s.tm o.guard
  · simp
  · cases step1 o call s <;> simp

inductive AX where
  | normal
  | exit (id : Nat)
  | ret
  deriving DecidableEq, Inhabited

abbrev XR := Option (AX × St)
noncomputable def iter (k : Nat) : (St → XR) → St → XR :=
  Nat.rec (motive := fun _ => (St → XR) → St → XR) (fun _ _ => none)
    (fun _ ih f s => match f s with
      | some (.normal, s') => ih f s'
      | r => r) k
theorem iter_zero (f : St → XR) (s : St) : iter 0 f s = none := rfl
theorem iter_succ (k : Nat) (f : St → XR) (s : St) : iter (k + 1) f s = (match f s with | some (.normal, s') => iter k f s' | r => r) := rfl

/-- what lies behind a range over a function -/
noncomputable def endRange (tm : List AV) (l : Nat) (h2 : AHeap) : XR :=
  match h2.get l with
  | some (.loop fn tm' ps' a' b' st pend) => if st = 1 then none else
    (match pend with
     | none => some (.normal, ⟨tm, h2.set l (.loop fn tm' ps' a' b' 3 none)⟩)
     | some .ret => some (.ret, ⟨tm, h2.set l (.loop fn tm' ps' a' b' 3 (some .ret))⟩)
     | some (.exit id) => some (.exit id, ⟨tm, h2.set l (.loop fn tm' ps' a' b' 3 (some (.exit id)))⟩))
  | _ => none

noncomputable def exec (c : ACode) : CallT → Nat → St → XR :=
  ACode.rec (motive := fun _ => CallT → Nat → St → XR)
    (fun _ _ s => some (.normal, s))
    (fun l call _ s => match runOps l call s with | some s' => some (.normal, s') | none => none)
    (fun l call _ s => match runDraw l call s [] with | some s' => some (.normal, s') | none => none)
    (fun _ _ iha ihb call fuel s => match iha call fuel s with
      | some (.normal, s') => ihb call fuel s'
      | r => r)
    (fun c _ _ iha ihb call fuel s => match ev s.tm c with
      | .bool b => Bool.rec (motive := fun _ => XR) (ihb call fuel s) (iha call fuel s) b
      | _ => none)
    (fun id _ ih call fuel s => match ih call fuel s with
      | some (.exit id', s') => bif Nat.beq id' id then some (.normal, s') else some (.exit id', s')
      | r => r)
    (fun _ ih call fuel s => iter fuel (ih call fuel) s)
    (fun f ps a b _ _ call _ s => match ev s.tm f with
      | .fn (.func g) first captured =>
        match call (.fn g) (first ++ [.fn (.yield s.h.next) [] []] ++ captured) (s.h.push (.loop 0 s.tm ps a b 0 none)) with
        | some (_, h2) => endRange s.tm s.h.next h2
        | none => none
      | _ => none)
    (fun id _ _ s => some (.exit id, s))
    (fun _ ih call fuel s => ih call fuel s)
    (fun _ _ s => some (.ret, s)) c

section
variable (call : CallT) (n : Nat) (s : St)
theorem exec_skip : exec .skip call n s = some (.normal, s) := rfl
theorem exec_ops (l : List AOper) : exec (.ops l) call n s = (match runOps l call s with | some s' => some (.normal, s') | none => none) := rfl
theorem exec_draw (l : List (AOper × Nat)) : exec (.draw l) call n s = (match runDraw l call s [] with | some s' => some (.normal, s') | none => none) := rfl
theorem exec_seq (a b : ACode) : exec (.seq a b) call n s = (match exec a call n s with | some (.normal, s') => exec b call n s' | r => r) := rfl
theorem exec_cond (c : AOpd) (a b : ACode) : exec (.cond c a b) call n s = (match ev s.tm c with | .bool t => (if t = true then exec a call n s else exec b call n s) | _ => none) := by
  show (match ev s.tm c with | .bool t => Bool.rec (motive := fun _ => XR) (exec b call n s) (exec a call n s) t | _ => none) = _
  cases ev s.tm c <;> simp only []
  rename_i t; cases t <;> rfl
def blockX (id : Nat) : XR → XR
  | some (.exit id', s') => if id' = id then some (.normal, s') else some (.exit id', s')
  | r => r
theorem exec_block (id : Nat) (b : ACode) : exec (.block id b) call n s = blockX id (exec b call n s) := by
  show (match exec b call n s with | some (AX.exit id', s') => bif Nat.beq id' id then some (AX.normal, s') else some (AX.exit id', s') | r => r) = _
  cases exec b call n s with
  | none => rfl
  | some p => obtain ⟨x, s'⟩ := p; cases x with
    | exit id' => by_cases h : id' = id
                  · subst h; simp [blockX]
                  · have : Nat.beq id' id = false := by cases hb : Nat.beq id' id <;> simp_all
                    simp [h, this, blockX]
    | _ => rfl
theorem exec_loop (b : ACode) : exec (.loop b) call n s = iter n (exec b call n) s := rfl
theorem exec_range (f : AOpd) (ps : List Nat) (a b : ACode) : exec (.rangeFunc f ps a b) call n s = (match ev s.tm f with
      | .fn (.func g) first captured =>
        match call (.fn g) (first ++ [.fn (.yield s.h.next) [] []] ++ captured) (s.h.push (.loop 0 s.tm ps a b 0 none)) with
        | some (_, h2) => endRange s.tm s.h.next h2
        | none => none
      | _ => none) := rfl
theorem exec_exit (id : Nat) : exec (.exit id) call n s = some (.exit id, s) := rfl
theorem exec_scope (b : ACode) : exec (.scope b) call n s = exec b call n s := rfl
theorem exec_ret : exec .ret call n s = some (.ret, s) := rfl
end

inductive ARes where
  | tmp (t : Nat)
  | cell (t : Nat) (n : Option Nat)
  deriving Inhabited
structure AFn where
  nt : Nat
  res : List ARes
  body : ACode
  deriving Inhabited

noncomputable def resOf (tm : List AV) (h : AHeap) : ARes → Option AV
  | .tmp t => some (nth tm t)
  | .cell t n => match nth tm t with
    | .ptr i o => match cellsOf h i with | some c => fit n o c | none => none
    | _ => none
noncomputable def resOfs (tm : List AV) (h : AHeap) : List ARes → Option (List AV)
  | [] => some []
  | r :: rs => match resOf tm h r, resOfs tm h rs with | some v, some vs => some (v :: vs) | _, _ => none
noncomputable def result (rs : List ARes) (tm : List AV) (h : AHeap) : Option AV :=
  match resOfs tm h rs with
  | some [v] => some v
  | some vs => some (.tup vs)
  | none => none

noncomputable def putsT : List Nat → List AV → List AV → List AV
  | p :: ps, v :: vs, tm => putsT ps vs (put tm p v)
  | _, _, tm => tm

abbrev Oracle := Nat → List AV → AHeap → Option (AV × AHeap)
abbrev FnTab := Nat → Option AFn

/-- a function's body has been run -/
noncomputable def finish (rs : List ARes) : XR → Option (AV × AHeap)
  | some (.normal, s) => (match result rs s.tm s.h with | some v => some (v, s.h) | none => none)
  | some (.ret, s) => (match result rs s.tm s.h with | some v => some (v, s.h) | none => none)
  | _ => none
/-- a round's end -/
noncomputable def endRound (l : Nat) : XR → Option (AV × AHeap)
  | some (x, s2) => (match s2.h.get l with
    | some (.loop fn tm' ps' a' b' _ _) => (match x with
      | .normal => some (.bool true, s2.h.set l (.loop fn tm' ps' a' b' 0 none))
      | .ret => some (.bool false, s2.h.set l (.loop fn tm' ps' a' b' 2 (some .ret)))
      | .exit id => some (.bool false, s2.h.set l (.loop fn tm' ps' a' b' 2 (some (.exit id)))))
    | _ => none)
  | none => none

noncomputable def callF (T : FnTab) (I : Oracle) (n : Nat) : CallT :=
  Nat.rec (motive := fun _ => CallT) (fun _ _ _ => none)
    (fun n ih c args h => match c with
      | .fn f => (match I f args h with
        | some r => some r
        | none => match T f with
          | none => none
          | some fn => finish fn.res (exec fn.body ih n ⟨args ++ List.replicate (fn.nt - args.length) aundef, h⟩))
      | .yield l => match h.get l with
        | some (.loop _ tm ps a b 0 _) => if args.length = ps.length then
            (match exec a ih n ⟨putsT ps args tm, h⟩ with
            | some (.normal, s1) => (match s1.h.get l with
              | some (.loop fn tm' ps' a' b' 0 pend) => endRound l (exec b ih n ⟨s1.tm, s1.h.set l (.loop fn tm' ps' a' b' 1 pend)⟩)
              | _ => none)
            | _ => none)
          else none
        | _ => none) n
theorem callF_zero (T : FnTab) (I : Oracle) (c : Callee) (args : List AV) (h : AHeap) : callF T I 0 c args h = none := rfl
theorem callF_fn (T : FnTab) (I : Oracle) (n f : Nat) (args : List AV) (h : AHeap) : callF T I (n + 1) (.fn f) args h = (match I f args h with
        | some r => some r
        | none => match T f with
          | none => none
          | some fn => finish fn.res (exec fn.body (callF T I n) n ⟨args ++ List.replicate (fn.nt - args.length) aundef, h⟩)) := rfl
theorem callF_yield (T : FnTab) (I : Oracle) (n l : Nat) (args : List AV) (h : AHeap) : callF T I (n + 1) (.yield l) args h = (match h.get l with
        | some (.loop _ tm ps a b 0 _) => if args.length = ps.length then
            (match exec a (callF T I n) n ⟨putsT ps args tm, h⟩ with
            | some (.normal, s1) => (match s1.h.get l with
              | some (.loop fn tm' ps' a' b' 0 pend) => endRound l (exec b (callF T I n) n ⟨s1.tm, s1.h.set l (.loop fn tm' ps' a' b' 1 pend)⟩)
              | _ => none)
            | _ => none)
          else none
        | _ => none) := rfl

end Go.AM
