/- The data of 'AM', an abstract machine of this claim's own: values with relative addresses, a heap of numbered objects, and their lemmas. No condition. -/
import Derived.CallsIn
import Derived.OrdersIn
import Derived.Scope
import Derived.Below
import Derived.KernelRfl
namespace Go.AM
open Go

/-- the capacity of a slice: known, or whatever room its object has (the size of an element in cells is kept) -/
inductive ACap where
  | exact (c : Nat)
  | opn (sz : Nat)
  deriving DecidableEq, Inhabited

inductive AV where
  | int (k : IntKind) (n : Int)
  | bool (b : Bool)
  | str (s : List Nat)
  | nilp
  | ptr (i off : Nat)
  | nils
  | slice (i off len : Nat) (cap : ACap)
  | nilm
  | map (i : Nat)
  | nilf
  | fn (f : Fn) (first captured : List AV)
  | nili
  | iface (t : Nat) (v : AV)
  | agg (cs : List AV)
  | tup (vs : List AV)
  deriving Inhabited

mutual
def AV.beq : AV → AV → Bool
  | .int k n, .int k' n' => decide (k = k') && decide (n = n')
  | .bool b, .bool b' => decide (b = b')
  | .str s, .str s' => decide (s = s')
  | .nilp, .nilp => true
  | .ptr i o, .ptr i' o' => Nat.beq i i' && Nat.beq o o'
  | .nils, .nils => true
  | .slice i o l c, .slice i' o' l' c' => Nat.beq i i' && Nat.beq o o' && Nat.beq l l' && decide (c = c')
  | .nilm, .nilm => true
  | .map i, .map i' => Nat.beq i i'
  | .nilf, .nilf => true
  | .fn f a b, .fn f' a' b' => decide (f = f') && AV.beqs a a' && AV.beqs b b'
  | .nili, .nili => true
  | .iface t v, .iface t' v' => Nat.beq t t' && AV.beq v v'
  | .agg a, .agg b => AV.beqs a b
  | .tup a, .tup b => AV.beqs a b
  | _, _ => false
def AV.beqs : List AV → List AV → Bool
  | [], [] => true
  | x :: xs, y :: ys => AV.beq x y && AV.beqs xs ys
  | _, _ => false
end

mutual
theorem AV.eq_of_beq : ∀ {a b : AV}, AV.beq a b = true → a = b
  | .int k n, b, h => by cases b <;> simp_all [AV.beq]
  | .bool _, b, h => by cases b <;> simp_all [AV.beq]
  | .str _, b, h => by cases b <;> simp_all [AV.beq]
  | .nilp, b, h => by cases b <;> simp_all [AV.beq]
  | .ptr _ _, b, h => by cases b <;> simp_all [AV.beq]
  | .nils, b, h => by cases b <;> simp_all [AV.beq]
  | .slice _ _ _ _, b, h => by cases b <;> simp_all [AV.beq]
  | .nilm, b, h => by cases b <;> simp_all [AV.beq]
  | .map _, b, h => by cases b <;> simp_all [AV.beq]
  | .nilf, b, h => by cases b <;> simp_all [AV.beq]
  | .fn f x y, b, h => by
    cases b with
    | fn f' x' y' =>
      simp only [AV.beq, Bool.and_eq_true, decide_eq_true_eq] at h
      obtain ⟨⟨h1, h2⟩, h3⟩ := h
      rw [h1, AV.eqs_of_beqs h2, AV.eqs_of_beqs h3]
    | _ => simp [AV.beq] at h
  | .nili, b, h => by cases b <;> simp_all [AV.beq]
  | .iface t v, b, h => by
    cases b with
    | iface t' v' =>
      simp only [AV.beq, Bool.and_eq_true] at h
      rw [Nat.eq_of_beq_eq_true h.1, AV.eq_of_beq h.2]
    | _ => simp [AV.beq] at h
  | .agg x, b, h => by
    cases b with
    | agg x' => rw [AV.eqs_of_beqs (a := x) (b := x') (by simpa [AV.beq] using h)]
    | _ => simp [AV.beq] at h
  | .tup x, b, h => by
    cases b with
    | tup x' => rw [AV.eqs_of_beqs (a := x) (b := x') (by simpa [AV.beq] using h)]
    | _ => simp [AV.beq] at h
theorem AV.eqs_of_beqs : ∀ {a b : List AV}, AV.beqs a b = true → a = b
  | [], b, h => by cases b <;> simp_all [AV.beqs]
  | x :: xs, b, h => by
    cases b with
    | nil => simp [AV.beqs] at h
    | cons y ys =>
      simp only [AV.beqs, Bool.and_eq_true] at h
      rw [AV.eq_of_beq h.1, AV.eqs_of_beqs h.2]
end

mutual
theorem AV.beq_refl : ∀ a : AV, AV.beq a a = true
  | .int _ _ => by simp [AV.beq]
  | .bool _ => by simp [AV.beq]
  | .str _ => by simp [AV.beq]
  | .nilp => by simp [AV.beq]
  | .ptr _ _ => by simp [AV.beq]
  | .nils => by simp [AV.beq]
  | .slice _ _ _ _ => by simp [AV.beq]
  | .nilm => by simp [AV.beq]
  | .map _ => by simp [AV.beq]
  | .nilf => by simp [AV.beq]
  | .fn _ x y => by simp [AV.beq, AV.beqs_refl x, AV.beqs_refl y]
  | .nili => by simp [AV.beq]
  | .iface _ v => by simp [AV.beq, AV.beq_refl v]
  | .agg x => by simp [AV.beq, AV.beqs_refl x]
  | .tup x => by simp [AV.beq, AV.beqs_refl x]
theorem AV.beqs_refl : ∀ a : List AV, AV.beqs a a = true
  | [] => by simp [AV.beqs]
  | x :: xs => by simp [AV.beqs, AV.beq_refl x, AV.beqs_refl xs]
end

/-- the value of one cell -/
def AV.scalar : AV → Bool
  | .agg _ | .tup _ => false
  | _ => true
def AV.cells : AV → List AV
  | .agg cs => cs
  | v => [v]
abbrev aundef : AV := .tup []

inductive AOpd where
  | tmp (t : Nat)
  | lit (v : AV)
  deriving Inhabited

/-- how a type's values are compared: not at all; bools; structs and arrays cell by cell (0: a bool, 1: an integer, 2: a string); a reference against nil (0: a pointer, 1: a slice, 2: a map, 3: a function) -/
inductive EqK where
  | no
  | bool
  | flat (ks : List Nat)
  | ref (k : Nat)
  deriving DecidableEq, Inhabited

/-- how the keys of a map are compared: one cell; the cells of a struct or an array -/
inductive KeyK where
  | one (k : Nat)
  | flat (ks : List Nat)
  deriving DecidableEq, Inhabited

inductive AOp where
  | mov (x : AOpd)
  | pick (c a b : AOpd)
  | alloc (z : List AV)
  | box (x : AOpd)
  | build (z : List AV) (ps : List (Nat × Nat × AOpd))
  | bslice (len : Nat) (sz : Nat) (z : List AV) (ps : List (Nat × AOpd))
  | load (n : Option Nat) (a : AOpd)
  | store (n : Nat) (a x : AOpd)
  | nilck (x : AOpd)
  | bin (op : BinOp) (e : EqK) (x y : AOpd)
  | un (op : UnOp) (x : AOpd)
  | toInt (k : IntKind) (x : AOpd)
  | toStr (x : AOpd)
  | toBytes (x : AOpd)
  | iface (t : Nat) (x : AOpd)
  | mkfn (f : Fn) (fs cs : List AOpd)
  | mkmap
  | mkslice (sz bytes : Nat) (z : List AV) (l c : AOpd)
  | slice (sz : Nat) (x : AOpd) (lo hi mx : Option AOpd)
  | sliceA (n sz : Nat) (x : AOpd) (lo hi mx : Option AOpd)
  | substr (x : AOpd) (lo hi : Option AOpd)
  | faddr (off : Nat) (x : AOpd)
  | field (off : Nat) (n : Option Nat) (x : AOpd)
  | iaddr (arr : Option Nat) (sz : Nat) (x i : AOpd)
  | index (len sz : Nat) (n : Option Nat) (x i : AOpd)
  | indexS (x i : AOpd)
  | lookup (ks : KeyK) (zero : AV) (ok : Bool) (m k : AOpd)
  | mupd (ks : KeyK) (m k v : AOpd)
  | extr (i : Nat) (x : AOpd)
  | call (f : AOpd) (args : List AOpd)
  | append (sz bytes : Nat) (z : List AV) (s x : AOpd)
  | copy (sz : Nat) (d s : AOpd)
  | len (k : Nat) (x : AOpd)
  | lenA (n : Nat)
  | mx (xs : List AOpd)
  | mn (xs : List AOpd)
  deriving Inhabited

structure AOper where
  dst : Option Nat
  op : AOp
  guard : Option (Nat × Bool)
  deriving Inhabited

inductive ACode where
  | skip
  | ops (l : List AOper)
  | draw (l : List (AOper × Nat))
  | seq (a b : ACode)
  | cond (c : AOpd) (a b : ACode)
  | block (id : Nat) (b : ACode)
  | loop (b : ACode)
  | rangeFunc (f : AOpd) (ps : List Nat) (a b : ACode)
  | exit (id : Nat)
  | scope (b : ACode)
  | ret
  deriving Inhabited

/-- how a round of a range over a function has been left -/
inductive AJump where
  | ret
  | exit (id : Nat)
  deriving DecidableEq, Inhabited

inductive AObj where
  | cells (c : List AV) (rw : Bool)
  | map (es : List (AV × AV))
  | loop (fn : Nat) (tmps : List AV) (ps : List Nat) (a b : ACode) (state : Nat) (pend : Option AJump)
  deriving Inhabited

/-- may the object be written? -/
def AObj.rw : AObj → Bool
  | .cells _ r => r
  | _ => true

inductive Tr where
  | e
  | n (l : Tr) (v : Option AObj) (r : Tr)
  deriving Inhabited

def Tr.l : Tr → Tr | .e => .e | .n l _ _ => l
def Tr.v : Tr → Option AObj | .e => none | .n _ v _ => v
def Tr.r : Tr → Tr | .e => .e | .n _ _ r => r

noncomputable def Tr.get (t : Tr) : Nat → Option AObj :=
  Tr.rec (motive := fun _ => Nat → Option AObj) (fun _ => none)
    (fun _ v _ ihl ihr k => Bool.rec (motive := fun _ => Option AObj) (Bool.rec (motive := fun _ => Option AObj) (ihr (k / 2 - 1)) (ihl (k / 2)) (Nat.beq (k % 2) 1)) v (Nat.beq k 0)) t

noncomputable def Tr.set (o : Option AObj) (f : Nat) : Tr → Nat → Tr :=
  Nat.rec (motive := fun _ => Tr → Nat → Tr) (fun t _ => t)
    (fun _ ih t k => Tr.rec (motive := fun _ => Tr)
      (Bool.rec (motive := fun _ => Tr) (Bool.rec (motive := fun _ => Tr) (.n .e none (ih .e (k / 2 - 1))) (.n (ih .e (k / 2)) none .e) (Nat.beq (k % 2) 1)) (.n .e o .e) (Nat.beq k 0))
      (fun l v r _ _ => Bool.rec (motive := fun _ => Tr) (Bool.rec (motive := fun _ => Tr) (.n l v (ih r (k / 2 - 1))) (.n (ih l (k / 2)) v r) (Nat.beq (k % 2) 1)) (.n l o r) (Nat.beq k 0)) t) f

theorem Tr.get_eq (t : Tr) (k : Nat) : t.get k = if k = 0 then t.v else if k % 2 = 1 then t.l.get (k / 2) else t.r.get (k / 2 - 1) := by
  have h : t.get k = Bool.rec (motive := fun _ => Option AObj) (Bool.rec (motive := fun _ => Option AObj) (t.r.get (k / 2 - 1)) (t.l.get (k / 2)) (Nat.beq (k % 2) 1)) t.v (Nat.beq k 0) := by
    cases t with
    | e => cases h1 : Nat.beq k 0 <;> cases h2 : Nat.beq (k % 2) 1 <;> simp only [Tr.r, Tr.l, Tr.v] <;> rfl
    | n l v r => rfl
  rw [h]
  by_cases h0 : k = 0
  · simp [h0]
  · have e0 : Nat.beq k 0 = false := by cases hb : Nat.beq k 0 <;> simp_all
    by_cases h2 : k % 2 = 1
    · simp [h0, h2, e0]
    · have e1 : Nat.beq (k % 2) 1 = false := by cases hb : Nat.beq (k % 2) 1 <;> simp_all
      simp [h0, h2, e0, e1]

theorem Tr.set_eq (o : Option AObj) (f : Nat) (t : Tr) (k : Nat) :
    Tr.set o (f + 1) t k = if k = 0 then .n t.l o t.r else if k % 2 = 1 then .n (Tr.set o f t.l (k / 2)) t.v t.r else .n t.l t.v (Tr.set o f t.r (k / 2 - 1)) := by
  have h : Tr.set o (f + 1) t k = Bool.rec (motive := fun _ => Tr) (Bool.rec (motive := fun _ => Tr) (.n t.l t.v (Tr.set o f t.r (k / 2 - 1))) (.n (Tr.set o f t.l (k / 2)) t.v t.r) (Nat.beq (k % 2) 1)) (.n t.l o t.r) (Nat.beq k 0) := by
    cases t <;> rfl
  rw [h]
  by_cases h0 : k = 0
  · simp [h0]
  · have e0 : Nat.beq k 0 = false := by cases hb : Nat.beq k 0 <;> simp_all
    by_cases h2 : k % 2 = 1
    · simp [h0, h2, e0]
    · have e1 : Nat.beq (k % 2) 1 = false := by cases hb : Nat.beq (k % 2) 1 <;> simp_all
      simp [h0, h2, e0, e1]

theorem Tr.get_set_same (o : Option AObj) : ∀ (f : Nat) (t : Tr) (k : Nat), k < f → (Tr.set o f t k).get k = o := by
  intro f
  induction f with
  | zero => intro t k h; omega
  | succ f ih =>
    intro t k h
    rw [Tr.set_eq, Tr.get_eq]
    by_cases h0 : k = 0
    · simp [h0, Tr.v]
    · by_cases h1 : k % 2 = 1
      · simp only [h0, h1, if_false, if_true, Tr.l]; exact ih _ _ (by omega)
      · simp only [h0, h1, if_false, Tr.r]; exact ih _ _ (by omega)

theorem Tr.get_set_ne (o : Option AObj) : ∀ (f : Nat) (t : Tr) (k j : Nat), j ≠ k → (Tr.set o f t k).get j = t.get j := by
  intro f
  induction f with
  | zero => intro t k j h; rfl
  | succ f ih =>
    intro t k j h
    rw [Tr.set_eq, Tr.get_eq (t := t)]
    by_cases k0 : k = 0
    · have j0 : j ≠ 0 := by omega
      rw [if_pos k0, Tr.get_eq]
      simp [j0, Tr.l, Tr.r]
    · by_cases k1 : k % 2 = 1
      · rw [if_neg k0, if_pos k1, Tr.get_eq]
        by_cases j0 : j = 0
        · simp [j0, Tr.v]
        · by_cases j1 : j % 2 = 1
          · simp only [j0, j1, if_false, if_true, Tr.l]; exact ih _ _ _ (by omega)
          · simp [j0, j1, Tr.r]
      · rw [if_neg k0, if_neg k1, Tr.get_eq]
        by_cases j0 : j = 0
        · simp [j0, Tr.v]
        · by_cases j1 : j % 2 = 1
          · simp [j0, j1, Tr.l]
          · simp only [j0, j1, if_false, Tr.r]; exact ih _ _ _ (by omega)

structure AHeap where
  next : Nat
  t : Tr
  deriving Inhabited

noncomputable def AHeap.get (h : AHeap) (i : Nat) : Option AObj := h.t.get i
noncomputable def AHeap.set (h : AHeap) (i : Nat) (o : AObj) : AHeap := ⟨h.next, h.t.set (some o) (i + 1) i⟩
noncomputable def AHeap.del (h : AHeap) (i : Nat) : AHeap := ⟨h.next, h.t.set none (i + 1) i⟩
noncomputable def AHeap.push (h : AHeap) (o : AObj) : AHeap := ⟨h.next + 1, h.t.set (some o) (h.next + 1) h.next⟩
abbrev AHeap.empty : AHeap := ⟨0, .e⟩

@[simp] theorem AHeap.next_set (h : AHeap) (i : Nat) (o : AObj) : (h.set i o).next = h.next := rfl
@[simp] theorem AHeap.next_del (h : AHeap) (i : Nat) : (h.del i).next = h.next := rfl
@[simp] theorem AHeap.next_push (h : AHeap) (o : AObj) : (h.push o).next = h.next + 1 := rfl
@[simp] theorem AHeap.get_set_same (h : AHeap) (i : Nat) (o : AObj) : (h.set i o).get i = some o := Tr.get_set_same _ _ _ _ (Nat.lt_succ_self i)
theorem AHeap.get_set_ne (h : AHeap) {i j : Nat} (o : AObj) (hne : j ≠ i) : (h.set i o).get j = h.get j := Tr.get_set_ne (some o) (i + 1) h.t i j hne
theorem AHeap.get_set (h : AHeap) (i j : Nat) (o : AObj) : (h.set i o).get j = if j = i then some o else h.get j := by
  by_cases e : j = i
  · subst e; simp
  · rw [AHeap.get_set_ne _ _ e, if_neg e]
@[simp] theorem AHeap.get_del_same (h : AHeap) (i : Nat) : (h.del i).get i = none := Tr.get_set_same _ _ _ _ (Nat.lt_succ_self i)
theorem AHeap.get_del_ne (h : AHeap) {i j : Nat} (hne : j ≠ i) : (h.del i).get j = h.get j := Tr.get_set_ne none (i + 1) h.t i j hne
theorem AHeap.get_del (h : AHeap) (i j : Nat) : (h.del i).get j = if j = i then none else h.get j := by
  by_cases e : j = i
  · subst e; simp
  · rw [AHeap.get_del_ne _ e, if_neg e]
@[simp] theorem AHeap.get_push_same (h : AHeap) (o : AObj) : (h.push o).get h.next = some o := Tr.get_set_same _ _ _ _ (Nat.lt_succ_self _)
theorem AHeap.get_push_ne (h : AHeap) {j : Nat} (o : AObj) (hne : j ≠ h.next) : (h.push o).get j = h.get j := Tr.get_set_ne (some o) (h.next + 1) h.t h.next j hne
theorem AHeap.get_push_lt (h : AHeap) {j : Nat} (o : AObj) (hlt : j < h.next) : (h.push o).get j = h.get j := AHeap.get_push_ne h o (by omega)
theorem AHeap.get_push (h : AHeap) (j : Nat) (o : AObj) : (h.push o).get j = if j = h.next then some o else h.get j := by
  by_cases e : j = h.next
  · subst e; simp
  · rw [AHeap.get_push_ne _ _ e, if_neg e]

end Go.AM
