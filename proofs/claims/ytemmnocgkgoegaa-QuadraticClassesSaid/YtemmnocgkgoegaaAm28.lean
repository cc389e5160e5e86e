/- Symbolic runs: the values of the operations. No condition. -/
import Derived.Test.YtemmnocgkgoegaaAm27
namespace Go.AM
open Go
section
variable {tm : List AV} {h : AHeap}
def pickV (c a b : AV) : Option AV := match c with | .bool t => some (bif t then a else b) | _ => none
def toIntV (k : IntKind) (x : AV) : Option AV := match x with | .int _ n => some (.int k (awrap k n)) | _ => none
noncomputable def fieldV (off : Nat) (n : Option Nat) (x : AV) : Option AV := match x with | .agg cs => fit n off cs | _ => none
noncomputable def loadV (n : Option Nat) (a : AV) (h : AHeap) : Option AV := match a with
  | .ptr i o => match cellsOf h i with | some c => fit n o c | none => none
  | _ => none
def iaddrV (sz : Nat) (x i : AV) : Option AV := match x, i with
  | .slice j o len _, .int _ i => if 0 ≤ i ∧ i < len then some (.ptr j (o + i.toNat * sz)) else none
  | _, _ => none
def indexSV (x i : AV) : Option AV := match x, i with
  | .str s, .int _ i => if 0 ≤ i then match s[i.toNat]? with | some b => some (.int .u8 b) | none => none else none
  | _, _ => none
noncomputable def lenV (k : Nat) (x : AV) (h : AHeap) : Option AV := match k, x with
    | 0, .str s => some (.int .i64 s.length)
    | 1, .nils => some (.int .i64 0)
    | 1, .slice _ _ n _ => some (.int .i64 n)
    | 2, .nilm => some (.int .i64 0)
    | 2, .map i => match h.get i with | some (.map es) => some (.int .i64 es.length) | _ => none
    | _, _ => none
def extrV (i : Nat) (x : AV) : Option AV := match x with | .tup vs => vs[i]? | _ => none
theorem evalQ_mov (x : AOpd) : evalQ (.mov x) tm h = some (ev tm x) := rfl
theorem evalQ_bin (op : BinOp) (e : EqK) (x y : AOpd) : evalQ (.bin op e x y) tm h = bin op e (ev tm x) (ev tm y) := rfl
theorem evalQ_un (op : UnOp) (x : AOpd) : evalQ (.un op x) tm h = un op (ev tm x) := rfl
theorem evalQ_pick (c a b : AOpd) : evalQ (.pick c a b) tm h = pickV (ev tm c) (ev tm a) (ev tm b) := rfl
theorem evalQ_toInt (k : IntKind) (x : AOpd) : evalQ (.toInt k x) tm h = toIntV k (ev tm x) := rfl
theorem evalQ_field (off : Nat) (n : Option Nat) (x : AOpd) : evalQ (.field off n x) tm h = fieldV off n (ev tm x) := rfl
theorem evalQ_load (n : Option Nat) (x : AOpd) : evalQ (.load n x) tm h = loadV n (ev tm x) h := rfl
theorem evalQ_iaddr (sz : Nat) (x i : AOpd) : evalQ (.iaddr none sz x i) tm h = iaddrV sz (ev tm x) (ev tm i) := rfl
theorem evalQ_indexS (x i : AOpd) : evalQ (.indexS x i) tm h = indexSV (ev tm x) (ev tm i) := rfl
theorem evalQ_len (k : Nat) (x : AOpd) : evalQ (.len k x) tm h = lenV k (ev tm x) h := rfl
theorem evalQ_lenA (n : Nat) : evalQ (.lenA n) tm h = some (.int .i64 n) := rfl
theorem evalQ_extr (i : Nat) (x : AOpd) : evalQ (.extr i x) tm h = extrV i (ev tm x) := rfl
theorem evalQ_mx (x : AOpd) (xs : List AOpd) : evalQ (.mx (x :: xs)) tm h = maxs (ev tm x) (evs tm xs) := rfl
theorem evalQ_mn (x : AOpd) (xs : List AOpd) : evalQ (.mn (x :: xs)) tm h = mins (ev tm x) (evs tm xs) := rfl
theorem evalQ_build (z : List AV) (ps : List (Nat × Nat × AOpd)) : evalQ (.build z ps) tm h = (match fills z ps tm with | some c => some (.agg c) | none => none) := rfl
theorem evalQ_nilck (x : AOpd) {i o : Nat} (hx : ev tm x = .ptr i o) : evalQ (.nilck x) tm h = some (.ptr i o) := by simp only [evalQ, hx]
theorem evalE_fn {C : CallT} (g : Nat) (args : List AOpd) : evalE (.call (.lit (.fn (.func g) [] [])) args) C tm h = C (.fn g) (evs tm args) h := by
  show C (.fn g) ([] ++ evs tm args ++ []) h = _
  simp
theorem evs_nil : evs tm [] = [] := rfl
theorem evs_cons (x : AOpd) (xs : List AOpd) : evs tm (x :: xs) = ev tm x :: evs tm xs := rfl
end
theorem pickV_tt (a b : AV) : pickV (.bool true) a b = some a := rfl
theorem pickV_ff (a b : AV) : pickV (.bool false) a b = some b := rfl
theorem extrV_0 (x : AV) (r : List AV) : extrV 0 (.tup (x :: r)) = some x := rfl
theorem extrV_1 (x y : AV) (r : List AV) : extrV 1 (.tup (x :: y :: r)) = some y := rfl
theorem extrV_2 (x y z : AV) (r : List AV) : extrV 2 (.tup (x :: y :: z :: r)) = some z := rfl
theorem toIntV_i64 {k : IntKind} {n : Int} (h1 : -9223372036854775808 ≤ n) (h2 : n ≤ 9223372036854775807) : toIntV .i64 (.int k n) = some (.int .i64 n) := by
  show some (AV.int .i64 (awrap .i64 n)) = _
  rw [awrap_id h1 h2]
section
variable {e : EqK} {a b : Int}
theorem add_i64 (h1 : -9223372036854775808 ≤ a + b) (h2 : a + b ≤ 9223372036854775807) : bin .add e (.int .i64 a) (.int .i64 b) = some (.int .i64 (a + b)) := by
  show some (AV.int .i64 (awrap .i64 (a + b))) = _
  rw [awrap_id h1 h2]
theorem sub_i64 (h1 : -9223372036854775808 ≤ a - b) (h2 : a - b ≤ 9223372036854775807) : bin .sub e (.int .i64 a) (.int .i64 b) = some (.int .i64 (a - b)) := by
  show some (AV.int .i64 (awrap .i64 (a - b))) = _
  rw [awrap_id h1 h2]
theorem mul_i64 (h1 : -9223372036854775808 ≤ a * b) (h2 : a * b ≤ 9223372036854775807) : bin .mul e (.int .i64 a) (.int .i64 b) = some (.int .i64 (a * b)) := by
  show some (AV.int .i64 (awrap .i64 (a * b))) = _
  rw [awrap_id h1 h2]
theorem neg_i64 (h1 : -9223372036854775807 ≤ a) (h2 : a ≤ 9223372036854775807) : un .neg (.int .i64 a) = some (.int .i64 (-a)) := by
  show some (AV.int .i64 (awrap .i64 (0 - a))) = _
  rw [awrap_id (by omega) (by omega), Int.zero_sub]
theorem quo_i64 (hb : b ≠ 0) (h1 : -9223372036854775808 ≤ a.tdiv b) (h2 : a.tdiv b ≤ 9223372036854775807) : bin .quo e (.int .i64 a) (.int .i64 b) = some (.int .i64 (a.tdiv b)) := by
  show (bif ieq b 0 then none else some (AV.int .i64 (awrap .i64 (a.tdiv b)))) = _
  rw [ieq_eq, decide_eq_false hb, awrap_id h1 h2]; rfl
theorem rem_i64 (hb : b ≠ 0) : bin .rem e (.int .i64 a) (.int .i64 b) = some (.int .i64 (a.tmod b)) := by
  show (bif ieq b 0 then none else some (AV.int .i64 (a.tmod b))) = _
  rw [ieq_eq, decide_eq_false hb]; rfl
/-- a quotient of numbers that are not negative -/
theorem quo_pos (h0 : 0 ≤ a) (hb : 0 < b) (h2 : a ≤ 9223372036854775807) : bin .quo e (.int .i64 a) (.int .i64 b) = some (.int .i64 (a / b)) := by
  have e1 : a.tdiv b = a / b := Int.tdiv_eq_ediv_of_nonneg h0
  have l1 : 0 ≤ a / b := Int.ediv_nonneg h0 (Int.le_of_lt hb)
  have l2 : a / b ≤ a := Int.ediv_le_self b h0
  rw [quo_i64 (by omega) (by rw [e1]; omega) (by rw [e1]; omega), e1]
theorem rem_pos (h0 : 0 ≤ a) (hb : 0 < b) : bin .rem e (.int .i64 a) (.int .i64 b) = some (.int .i64 (a % b)) := by
  rw [rem_i64 (by omega), Int.tmod_eq_emod_of_nonneg h0]
theorem eql_int {k : IntKind} : bin .eql e (.int k a) (.int k b) = some (.bool (decide (a = b))) := by
  show (bif keq k k then some (AV.bool (ieq a b)) else none) = _
  rw [ieq_eq]; cases k <;> rfl
theorem neq_int {k : IntKind} : bin .neq e (.int k a) (.int k b) = some (.bool (decide (a ≠ b))) := by
  show (bif keq k k then some (AV.bool (!ieq a b)) else none) = _
  rw [ieq_eq, ← decide_not]; cases k <;> rfl
theorem lss_int {k : IntKind} : bin .lss e (.int k a) (.int k b) = some (.bool (decide (a < b))) := by
  show (bif keq k k then some (AV.bool (ilt a b)) else none) = _
  rw [ilt_eq]; cases k <;> rfl
theorem gtr_int {k : IntKind} : bin .gtr e (.int k a) (.int k b) = some (.bool (decide (b < a))) := by
  show (bif keq k k then some (AV.bool (ilt b a)) else none) = _
  rw [ilt_eq]; cases k <;> rfl
theorem leq_int {k : IntKind} : bin .leq e (.int k a) (.int k b) = some (.bool (decide (a ≤ b))) := by
  have : (!decide (b < a)) = decide (a ≤ b) := by rw [← decide_not, decide_eq_decide, Int.not_lt]
  show (bif keq k k then some (AV.bool (!ilt b a)) else none) = _
  rw [ilt_eq, this]; cases k <;> rfl
theorem geq_int {k : IntKind} : bin .geq e (.int k a) (.int k b) = some (.bool (decide (b ≤ a))) := by
  have : (!decide (a < b)) = decide (b ≤ a) := by rw [← decide_not, decide_eq_decide, Int.not_lt]
  show (bif keq k k then some (AV.bool (!ilt a b)) else none) = _
  rw [ilt_eq, this]; cases k <;> rfl
theorem not_bool {t : Bool} : un .not (.bool t) = some (.bool !t) := rfl
theorem eql_bool {s t : Bool} : bin .eql .bool (.bool s) (.bool t) = some (.bool (s == t)) := rfl
theorem neq_bool {s t : Bool} : bin .neq .bool (.bool s) (.bool t) = some (.bool (!(s == t))) := rfl
theorem max_int {k : IntKind} : maxs (.int k a) [.int k b] = some (.int k (if b > a then b else a)) := by
  simp only [maxs, if_true]
theorem min_int {k : IntKind} : mins (.int k a) [.int k b] = some (.int k (if b < a then b else a)) := by
  simp only [mins, if_true]
end
end Go.AM
