/- The abstract machine, sound; plain mathematics. No condition. -/
import Derived.Below
import Derived.CallsIn
import Derived.ChangeKeysEq
import Derived.KernelRfl
import Derived.Laws.BytesString
import Derived.Laws.Cells
import Derived.Laws.IdiomStrings
import Derived.Laws.MakeOwn
import Derived.Laws.StructEq
import Derived.Laws.World
import Derived.OrdersIn
import Derived.Scope
import Derived.WalkKit
import Derived.WalkSpells
set_option linter.unusedVariables false
namespace Go.AM
open Go
inductive ACap where
 | exact (c:Nat)
 | opn (sz:Nat)
 deriving DecidableEq,Inhabited
inductive AV where
 | int (k:IntKind) (n:Int)
 | bool (b:Bool)
 | str (s:List Nat)
 | nilp
 | ptr (i off:Nat)
 | nils
 | slice (i off len:Nat) (cap:ACap)
 | nilm
 | map (i:Nat)
 | nilf
 | fn (f:Fn) (first captured:List AV)
 | nili
 | iface (t:Nat) (v:AV)
 | agg (cs:List AV)
 | tup (vs:List AV)
 deriving Inhabited
mutual
def AV.beq:AV -> AV -> Bool
 | .int k n, .int k' n' => decide (k = k') && decide (n = n')
 | .bool b, .bool b' => decide (b = b')
 | .str s, .str s' => decide (s = s')
 | .nilp, .nilp => true
 | .ptr i o, .ptr i' o' => Nat.beq i i' && Nat.beq o o'
 | .nils, .nils => true
 | .slice i o l c, .slice i' o' l' c' => Nat.beq i i' && Nat.beq o o' && Nat.beq l l' && decide (c = c')
 | .nilm, .nilm => true
 | .map i, .map i' => Nat.beq i i'
 | .nilf, .nilf => true
 | .fn f a b, .fn f' a' b' => decide (f = f') && AV.beqs a a' && AV.beqs b b'
 | .nili, .nili => true
 | .iface t v, .iface t' v' => Nat.beq t t' && AV.beq v v'
 | .agg a, .agg b => AV.beqs a b
 | .tup a, .tup b => AV.beqs a b
 | _,_ => false
def AV.beqs:List AV -> List AV -> Bool
 | [], [] => true
 | x :: xs,y :: ys => AV.beq x y && AV.beqs xs ys
 | _,_ => false
end
mutual
theorem AV.eq_of_beq:∀ {a b:AV},AV.beq a b = true -> a = b
 | .int k n,b,h => by cases b <;> simp_all [AV.beq]
 | .bool _,b,h => by cases b <;> simp_all [AV.beq]
 | .str _,b,h => by cases b <;> simp_all [AV.beq]
 | .nilp,b,h => by cases b <;> simp_all [AV.beq]
 | .ptr _ _,b,h => by cases b <;> simp_all [AV.beq]
 | .nils,b,h => by cases b <;> simp_all [AV.beq]
 | .slice _ _ _ _,b,h => by cases b <;> simp_all [AV.beq]
 | .nilm,b,h => by cases b <;> simp_all [AV.beq]
 | .map _,b,h => by cases b <;> simp_all [AV.beq]
 | .nilf,b,h => by cases b <;> simp_all [AV.beq]
 | .fn f x y,b,h => by
  cases b with
  | fn f' x' y' =>
   simp only [AV.beq,Bool.and_eq_true,decide_eq_true_eq] at h
   obtain ⟨⟨h1,h2⟩,h3⟩:=h
   rw [h1,AV.eqs_of_beqs h2,AV.eqs_of_beqs h3]
  | _ => simp [AV.beq] at h
 | .nili,b,h => by cases b <;> simp_all [AV.beq]
 | .iface t v,b,h => by
  cases b with
  | iface t' v' =>
   simp only [AV.beq,Bool.and_eq_true] at h
   rw [Nat.eq_of_beq_eq_true h.1,AV.eq_of_beq h.2]
  | _ => simp [AV.beq] at h
 | .agg x,b,h => by
  cases b with
  | agg x' => rw [AV.eqs_of_beqs (a:=x) (b:=x') (by simpa [AV.beq] using h)]
  | _ => simp [AV.beq] at h
 | .tup x,b,h => by
  cases b with
  | tup x' => rw [AV.eqs_of_beqs (a:=x) (b:=x') (by simpa [AV.beq] using h)]
  | _ => simp [AV.beq] at h
theorem AV.eqs_of_beqs:∀ {a b:List AV},AV.beqs a b = true -> a = b
 | [],b,h => by cases b <;> simp_all [AV.beqs]
 | x :: xs,b,h => by
  cases b with
  | nil => simp [AV.beqs] at h
  | cons y ys =>
   simp only [AV.beqs,Bool.and_eq_true] at h
   rw [AV.eq_of_beq h.1,AV.eqs_of_beqs h.2]
end
mutual
theorem AV.beq_refl:∀ a:AV,AV.beq a a = true
 | .int _ _ => by simp [AV.beq]
 | .bool _ => by simp [AV.beq]
 | .str _ => by simp [AV.beq]
 | .nilp => by simp [AV.beq]
 | .ptr _ _ => by simp [AV.beq]
 | .nils => by simp [AV.beq]
 | .slice _ _ _ _ => by simp [AV.beq]
 | .nilm => by simp [AV.beq]
 | .map _ => by simp [AV.beq]
 | .nilf => by simp [AV.beq]
 | .fn _ x y => by simp [AV.beq,AV.beqs_refl x,AV.beqs_refl y]
 | .nili => by simp [AV.beq]
 | .iface _ v => by simp [AV.beq,AV.beq_refl v]
 | .agg x => by simp [AV.beq,AV.beqs_refl x]
 | .tup x => by simp [AV.beq,AV.beqs_refl x]
theorem AV.beqs_refl:∀ a:List AV,AV.beqs a a = true
 | [] => by simp [AV.beqs]
 | x :: xs => by simp [AV.beqs,AV.beq_refl x,AV.beqs_refl xs]
end
def AV.scalar:AV -> Bool
 | .agg _ | .tup _ => false
 | _ => true
def AV.cells:AV -> List AV
 | .agg cs => cs
 | v => [v]
abbrev aundef:AV := .tup []
inductive AOpd where
 | tmp (t:Nat)
 | lit (v:AV)
 deriving Inhabited
inductive EqK where
 | no
 | bool
 | flat (ks:List Nat)
 | ref (k:Nat)
 deriving DecidableEq,Inhabited
inductive KeyK where
 | one (k:Nat)
 | flat (ks:List Nat)
 deriving DecidableEq,Inhabited
inductive AOp where
 | mov (x:AOpd)
 | pick (c a b:AOpd)
 | alloc (z:List AV)
 | box (x:AOpd)
 | build (z:List AV) (ps:List (Nat × Nat × AOpd))
 | bslice (len:Nat) (sz:Nat) (z:List AV) (ps:List (Nat × AOpd))
 | load (n:Option Nat) (a:AOpd)
 | store (n:Nat) (a x:AOpd)
 | nilck (x:AOpd)
 | bin (op:BinOp) (e:EqK) (x y:AOpd)
 | un (op:UnOp) (x:AOpd)
 | toInt (k:IntKind) (x:AOpd)
 | toStr (x:AOpd)
 | toBytes (x:AOpd)
 | iface (t:Nat) (x:AOpd)
 | mkfn (f:Fn) (fs cs:List AOpd)
 | mkmap
 | mkslice (sz bytes:Nat) (z:List AV) (l c:AOpd)
 | slice (sz:Nat) (x:AOpd) (lo hi mx:Option AOpd)
 | sliceA (n sz:Nat) (x:AOpd) (lo hi mx:Option AOpd)
 | substr (x:AOpd) (lo hi:Option AOpd)
 | faddr (off:Nat) (x:AOpd)
 | field (off:Nat) (n:Option Nat) (x:AOpd)
 | iaddr (arr:Option Nat) (sz:Nat) (x i:AOpd)
 | index (len sz:Nat) (n:Option Nat) (x i:AOpd)
 | indexS (x i:AOpd)
 | lookup (ks:KeyK) (zero:AV) (ok:Bool) (m k:AOpd)
 | mupd (ks:KeyK) (m k v:AOpd)
 | extr (i:Nat) (x:AOpd)
 | call (f:AOpd) (args:List AOpd)
 | append (sz bytes:Nat) (z:List AV) (s x:AOpd)
 | copy (sz:Nat) (d s:AOpd)
 | len (k:Nat) (x:AOpd)
 | lenA (n:Nat)
 | mx (xs:List AOpd)
 | mn (xs:List AOpd)
 deriving Inhabited
structure AOper where
 dst:Option Nat
 op:AOp
 guard:Option (Nat × Bool)
 deriving Inhabited
inductive ACode where
 | skip
 | ops (l:List AOper)
 | draw (l:List (AOper × Nat))
 | seq (a b:ACode)
 | cond (c:AOpd) (a b:ACode)
 | block (id:Nat) (b:ACode)
 | loop (b:ACode)
 | rangeFunc (f:AOpd) (ps:List Nat) (a b:ACode)
 | exit (id:Nat)
 | scope (b:ACode)
 | ret
 deriving Inhabited
inductive AJump where
 | ret
 | exit (id:Nat)
 deriving DecidableEq,Inhabited
inductive AObj where
 | cells (c:List AV) (rw:Bool)
 | map (es:List (AV × AV))
 | loop (fn:Nat) (tmps:List AV) (ps:List Nat) (a b:ACode) (state:Nat) (pend:Option AJump)
 deriving Inhabited
def AObj.rw:AObj -> Bool
 | .cells _ r => r
 | _ => true
inductive Tr where
 | e
 | n (l:Tr) (v:Option AObj) (r:Tr)
 deriving Inhabited
def Tr.l:Tr -> Tr | .e => .e | .n l _ _ => l
def Tr.v:Tr -> Option AObj | .e => none | .n _ v _ => v
def Tr.r:Tr -> Tr | .e => .e | .n _ _ r => r
noncomputable def Tr.get (t:Tr):Nat -> Option AObj :=
 Tr.rec (motive:=fun _ => Nat -> Option AObj) (fun _ => none)
  (fun _ v _ ihl ihr k => Bool.rec (motive:=fun _ => Option AObj) (Bool.rec (motive:=fun _ => Option AObj) (ihr (k / 2 - 1)) (ihl (k / 2)) (Nat.beq (k % 2) 1)) v (Nat.beq k 0)) t
noncomputable def Tr.set (o:Option AObj) (f:Nat):Tr -> Nat -> Tr :=
 Nat.rec (motive:=fun _ => Tr -> Nat -> Tr) (fun t _ => t)
  (fun _ ih t k => Tr.rec (motive:=fun _ => Tr)
   (Bool.rec (motive:=fun _ => Tr) (Bool.rec (motive:=fun _ => Tr) (.n .e none (ih .e (k / 2 - 1))) (.n (ih .e (k / 2)) none .e) (Nat.beq (k % 2) 1)) (.n .e o .e) (Nat.beq k 0))
   (fun l v r _ _ => Bool.rec (motive:=fun _ => Tr) (Bool.rec (motive:=fun _ => Tr) (.n l v (ih r (k / 2 - 1))) (.n (ih l (k / 2)) v r) (Nat.beq (k % 2) 1)) (.n l o r) (Nat.beq k 0)) t) f
theorem Tr.get_eq (t:Tr) (k:Nat):t.get k = if k = 0 then t.v else if k % 2 = 1 then t.l.get (k / 2) else t.r.get (k / 2 - 1):=by
 have h:t.get k = Bool.rec (motive:=fun _ => Option AObj) (Bool.rec (motive:=fun _ => Option AObj) (t.r.get (k / 2 - 1)) (t.l.get (k / 2)) (Nat.beq (k % 2) 1)) t.v (Nat.beq k 0):=by
  cases t with
  | e => cases h1:Nat.beq k 0 <;> cases h2:Nat.beq (k % 2) 1 <;> simp only [Tr.r,Tr.l,Tr.v] <;> rfl
  | n l v r => rfl
 rw [h]
 by_cases h0:k = 0
 ·simp [h0]
 ·have e0:Nat.beq k 0 = false:=by cases hb:Nat.beq k 0 <;> simp_all
  by_cases h2:k % 2 = 1
  ·simp [h0,h2,e0]
  ·have e1:Nat.beq (k % 2) 1 = false:=by cases hb:Nat.beq (k % 2) 1 <;> simp_all
   simp [h0,h2,e0,e1]
theorem Tr.set_eq (o : Option AObj) (f : Nat) (t : Tr) (k : Nat) :
  Tr.set o (f + 1) t k = if k = 0 then .n t.l o t.r else if k % 2 = 1 then .n (Tr.set o f t.l (k / 2)) t.v t.r else .n t.l t.v (Tr.set o f t.r (k / 2 - 1)):=by
 have h:Tr.set o (f + 1) t k = Bool.rec (motive:=fun _ => Tr) (Bool.rec (motive:=fun _ => Tr) (.n t.l t.v (Tr.set o f t.r (k / 2 - 1))) (.n (Tr.set o f t.l (k / 2)) t.v t.r) (Nat.beq (k % 2) 1)) (.n t.l o t.r) (Nat.beq k 0):=by
  cases t <;> rfl
 rw [h]
 by_cases h0:k = 0
 ·simp [h0]
 ·have e0:Nat.beq k 0 = false:=by cases hb:Nat.beq k 0 <;> simp_all
  by_cases h2:k % 2 = 1
  ·simp [h0,h2,e0]
  ·have e1:Nat.beq (k % 2) 1 = false:=by cases hb:Nat.beq (k % 2) 1 <;> simp_all
   simp [h0,h2,e0,e1]
theorem Tr.get_set_same (o:Option AObj):∀ (f:Nat) (t:Tr) (k:Nat),k < f -> (Tr.set o f t k).get k = o:=by
 intro f
 induction f with
 | zero => intro t k h; omega
 | succ f ih =>
  intro t k h
  rw [Tr.set_eq,Tr.get_eq]
  by_cases h0:k = 0
  ·simp [h0,Tr.v]
  ·by_cases h1:k % 2 = 1
   ·simp only [h0,h1,if_false,if_true,Tr.l]; exact ih _ _ (by omega)
   ·simp only [h0,h1,if_false,Tr.r]; exact ih _ _ (by omega)
theorem Tr.get_set_ne (o:Option AObj):∀ (f:Nat) (t:Tr) (k j:Nat),j ≠ k -> (Tr.set o f t k).get j = t.get j:=by
 intro f
 induction f with
 | zero => intro t k j h; rfl
 | succ f ih =>
  intro t k j h
  rw [Tr.set_eq,Tr.get_eq (t:=t)]
  by_cases k0:k = 0
  ·have j0:j ≠ 0:=by omega
   rw [if_pos k0,Tr.get_eq]
   simp [j0,Tr.l,Tr.r]
  ·by_cases k1:k % 2 = 1
   ·rw [if_neg k0,if_pos k1,Tr.get_eq]
    by_cases j0:j = 0
    ·simp [j0,Tr.v]
    ·by_cases j1:j % 2 = 1
     ·simp only [j0,j1,if_false,if_true,Tr.l]; exact ih _ _ _ (by omega)
     ·simp [j0,j1,Tr.r]
   ·rw [if_neg k0,if_neg k1,Tr.get_eq]
    by_cases j0:j = 0
    ·simp [j0,Tr.v]
    ·by_cases j1:j % 2 = 1
     ·simp [j0,j1,Tr.l]
     ·simp only [j0,j1,if_false,Tr.r]; exact ih _ _ _ (by omega)
structure AHeap where
 next:Nat
 t:Tr
 deriving Inhabited
noncomputable def AHeap.get (h:AHeap) (i:Nat):Option AObj:=h.t.get i
noncomputable def AHeap.set (h:AHeap) (i:Nat) (o:AObj):AHeap:=⟨h.next,h.t.set (some o) (i + 1) i⟩
noncomputable def AHeap.del (h:AHeap) (i:Nat):AHeap:=⟨h.next,h.t.set none (i + 1) i⟩
noncomputable def AHeap.push (h:AHeap) (o:AObj):AHeap:=⟨h.next + 1,h.t.set (some o) (h.next + 1) h.next⟩
abbrev AHeap.empty:AHeap:=⟨0, .e⟩
@[simp] theorem AHeap.next_set (h:AHeap) (i:Nat) (o:AObj):(h.set i o).next = h.next:=rfl
@[simp] theorem AHeap.next_del (h:AHeap) (i:Nat):(h.del i).next = h.next:=rfl
@[simp] theorem AHeap.next_push (h:AHeap) (o:AObj):(h.push o).next = h.next + 1:=rfl
@[simp] theorem AHeap.get_set_same (h:AHeap) (i:Nat) (o:AObj):(h.set i o).get i = some o:=Tr.get_set_same _ _ _ _ (Nat.lt_succ_self i)
theorem AHeap.get_set_ne (h:AHeap) {i j:Nat} (o:AObj) (hne:j ≠ i):(h.set i o).get j = h.get j:=Tr.get_set_ne (some o) (i + 1) h.t i j hne
theorem AHeap.get_set (h:AHeap) (i j:Nat) (o:AObj):(h.set i o).get j = if j = i then some o else h.get j:=by
 by_cases e:j = i
 ·subst e; simp
 ·rw [AHeap.get_set_ne _ _ e,if_neg e]
@[simp] theorem AHeap.get_del_same (h:AHeap) (i:Nat):(h.del i).get i = none:=Tr.get_set_same _ _ _ _ (Nat.lt_succ_self i)
theorem AHeap.get_del_ne (h:AHeap) {i j:Nat} (hne:j ≠ i):(h.del i).get j = h.get j:=Tr.get_set_ne none (i + 1) h.t i j hne
theorem AHeap.get_del (h:AHeap) (i j:Nat):(h.del i).get j = if j = i then none else h.get j:=by
 by_cases e:j = i
 ·subst e; simp
 ·rw [AHeap.get_del_ne _ e,if_neg e]
@[simp] theorem AHeap.get_push_same (h:AHeap) (o:AObj):(h.push o).get h.next = some o:=Tr.get_set_same _ _ _ _ (Nat.lt_succ_self _)
theorem AHeap.get_push_ne (h:AHeap) {j:Nat} (o:AObj) (hne:j ≠ h.next):(h.push o).get j = h.get j:=Tr.get_set_ne (some o) (h.next + 1) h.t h.next j hne
theorem AHeap.get_push_lt (h:AHeap) {j:Nat} (o:AObj) (hlt:j < h.next):(h.push o).get j = h.get j:=AHeap.get_push_ne h o (by omega)
theorem AHeap.get_push (h:AHeap) (j:Nat) (o:AObj):(h.push o).get j = if j = h.next then some o else h.get j:=by
 by_cases e:j = h.next
 ·subst e; simp
 ·rw [AHeap.get_push_ne _ _ e,if_neg e]
end Go.AM
namespace Go.AM
open Go
noncomputable def nth (l:List AV):Nat -> AV :=
 List.rec (motive:=fun _ => Nat -> AV) (fun _ => aundef) (fun x _ ih n => Nat.rec (motive:=fun _ => AV) x (fun m _ => ih m) n) l
theorem nth_nil (n:Nat):nth [] n = aundef:=rfl
theorem nth_zero (x:AV) (xs:List AV):nth (x :: xs) 0 = x:=rfl
theorem nth_succ (x:AV) (xs:List AV) (n:Nat):nth (x :: xs) (n + 1) = nth xs n:=rfl
noncomputable def put (l:List AV):Nat -> AV -> List AV :=
 List.rec (motive:=fun _ => Nat -> AV -> List AV) (fun _ _ => []) (fun x xs ih n v => Nat.rec (motive:=fun _ => List AV) (v :: xs) (fun m _ => x :: ih m v) n) l
theorem put_zero (x:AV) (xs:List AV) (v:AV):put (x :: xs) 0 v = v :: xs:=rfl
theorem put_succ (x:AV) (xs:List AV) (n:Nat) (v:AV):put (x :: xs) (n + 1) v = x :: put xs n v:=rfl
noncomputable def ev (tm:List AV) (x:AOpd):AV:=AOpd.rec (motive:=fun _ => List AV -> AV) (fun t tm => nth tm t) (fun v _ => v) x tm
theorem ev_tmp (tm:List AV) (t:Nat):ev tm (.tmp t) = nth tm t:=rfl
theorem ev_lit (tm:List AV) (v:AV):ev tm (.lit v) = v:=rfl
noncomputable def evs (tm:List AV):List AOpd -> List AV
 | [] => []
 | x :: xs => ev tm x :: evs tm xs
noncomputable def cut (l:List AV):Nat -> Nat -> Option (List AV) :=
 List.rec (motive:=fun _ => Nat -> Nat -> Option (List AV))
  (fun o n => Nat.rec (motive:=fun _ => Option (List AV)) (Nat.rec (motive:=fun _ => Option (List AV)) (some []) (fun _ _ => none) n) (fun _ _ => none) o)
  (fun x _ ih o n => Nat.rec (motive:=fun _ => Option (List AV))
   (Nat.rec (motive:=fun _ => Option (List AV)) (some []) (fun m _ => Option.rec (motive:=fun _ => Option (List AV)) none (fun r => some (x :: r)) (ih 0 m)) n)
   (fun o' _ => ih o' n) o) l
theorem cut_zero (l:List AV):cut l 0 0 = some []:=by cases l <;> rfl
theorem cut_nil (o n:Nat):cut [] o n = if o = 0 /\ n = 0 then some [] else none:=by cases o <;> cases n <;> simp <;> rfl
theorem cut_cons (x:AV) (xs:List AV) (n:Nat):cut (x :: xs) 0 (n + 1) = (match cut xs 0 n with | some r => some (x :: r) | none => none):=by
 show Option.rec (motive:=fun _ => Option (List AV)) none (fun r => some (x :: r)) (cut xs 0 n) = _
 cases cut xs 0 n <;> rfl
theorem cut_succ (x:AV) (xs:List AV) (o n:Nat):cut (x :: xs) (o + 1) n = cut xs o n:=rfl
noncomputable def lay (l:List AV):Nat -> List AV -> Option (List AV) :=
 List.rec (motive:=fun _ => Nat -> List AV -> Option (List AV))
  (fun o vs => Nat.rec (motive:=fun _ => Option (List AV)) (List.rec (motive:=fun _ => Option (List AV)) (some []) (fun _ _ _ => none) vs) (fun _ _ => none) o)
  (fun x xs ih o vs => Nat.rec (motive:=fun _ => Option (List AV))
   (List.rec (motive:=fun _ => Option (List AV)) (some (x :: xs)) (fun v vs' _ => Option.rec (motive:=fun _ => Option (List AV)) none (fun r => some (v :: r)) (ih 0 vs')) vs)
   (fun o' _ => Option.rec (motive:=fun _ => Option (List AV)) none (fun r => some (x :: r)) (ih o' vs)) o) l
theorem lay_zero (l:List AV):lay l 0 [] = some l:=by cases l <;> rfl
theorem lay_nil (o:Nat) (vs:List AV):lay [] o vs = if o = 0 /\ vs = [] then some [] else none:=by cases o <;> cases vs <;> simp <;> rfl
theorem lay_cons (x v:AV) (xs vs:List AV):lay (x :: xs) 0 (v :: vs) = (match lay xs 0 vs with | some r => some (v :: r) | none => none):=by
 show Option.rec (motive:=fun _ => Option (List AV)) none (fun r => some (v :: r)) (lay xs 0 vs) = _
 cases lay xs 0 vs <;> rfl
theorem lay_succ (x:AV) (xs vs:List AV) (o:Nat):lay (x :: xs) (o + 1) vs = (match lay xs o vs with | some r => some (x :: r) | none => none):=by
 show Option.rec (motive:=fun _ => Option (List AV)) none (fun r => some (x :: r)) (lay xs o vs) = _
 cases lay xs o vs <;> rfl
noncomputable def repl (n:Nat) (z:List AV):List AV:=Nat.rec (motive:=fun _ => List AV) [] (fun _ ih => z ++ ih) n
theorem repl_zero (z:List AV):repl 0 z = []:=rfl
theorem repl_succ (n:Nat) (z:List AV):repl (n + 1) z = z ++ repl n z:=rfl
def drops:List AV -> Nat -> List AV
 | l,0 => l
 | [],_ + 1 => []
 | _ :: xs,n + 1 => drops xs n
noncomputable def fit (n:Option Nat):Nat -> List AV -> Option AV :=
 match n with
 | none => fun off cs => match cut cs off 1 with | some [v] => some v | _ => none
 | some n => fun off cs => match cut cs off n with | some r => some (.agg r) | none => none
def awrap (k:IntKind):Int -> Int :=
 match k with
 | .u8 => fun n => n % 256
 | .u16 => fun n => n % 65536
 | .u32 => fun n => n % 4294967296
 | .u64 => fun n => n % 18446744073709551616
 | .i8 => fun n => if n % 256 ≥ 128 then n % 256 - 256 else n % 256
 | .i16 => fun n => if n % 65536 ≥ 32768 then n % 65536 - 65536 else n % 65536
 | .i32 => fun n => if n % 4294967296 ≥ 2147483648 then n % 4294967296 - 4294967296 else n % 4294967296
 | .i64 => fun n => match n with
  | .ofNat a => bif Nat.blt a 9223372036854775808 then .ofNat a else (if (a:Int) % 18446744073709551616 ≥ 9223372036854775808 then (a:Int) % 18446744073709551616 - 18446744073709551616 else (a:Int) % 18446744073709551616)
  | .negSucc a => bif Nat.blt a 9223372036854775808 then .negSucc a else (if (Int.negSucc a) % 18446744073709551616 ≥ 9223372036854775808 then (Int.negSucc a) % 18446744073709551616 - 18446744073709551616 else (Int.negSucc a) % 18446744073709551616)
def ilt:Int -> Int -> Bool
 | .ofNat a, .ofNat b => Nat.blt a b
 | .ofNat _, .negSucc _ => false
 | .negSucc _, .ofNat _ => true
 | .negSucc a, .negSucc b => Nat.blt b a
def ieq:Int -> Int -> Bool
 | .ofNat a, .ofNat b => Nat.beq a b
 | .negSucc a, .negSucc b => Nat.beq a b
 | _,_ => false
def keq:IntKind -> IntKind -> Bool
 | .i8, .i8 | .i16, .i16 | .i32, .i32 | .i64, .i64 | .u8, .u8 | .u16, .u16 | .u32, .u32 | .u64, .u64 => true
 | _,_ => false
def kbits:IntKind -> Nat
 | .u8 | .i8 => 8
 | .u16 | .i16 => 16
 | .u32 | .i32 => 32
 | .u64 | .i64 => 64
def kmod (k:IntKind) (n:Int):Nat :=
 match k with
 | .u8 | .i8 => (n % 256).toNat
 | .u16 | .i16 => (n % 65536).toNat
 | .u32 | .i32 => (n % 4294967296).toNat
 | .u64 | .i64 => (n % 18446744073709551616).toNat
def kmask:IntKind -> Nat
 | .u8 | .i8 => 255
 | .u16 | .i16 => 65535
 | .u32 | .i32 => 4294967295
 | .u64 | .i64 => 18446744073709551615
def ibits (op:BinOp) (k:IntKind) (x y:Int):Option AV :=
 match op with
 | .and => some (.int k (awrap k ((Nat.land (kmod k x) (kmod k y):Nat):Int)))
 | .or => some (.int k (awrap k ((Nat.lor (kmod k x) (kmod k y):Nat):Int)))
 | .xor => some (.int k (awrap k ((Nat.xor (kmod k x) (kmod k y):Nat):Int)))
 | .andNot => some (.int k (awrap k ((Nat.land (kmod k x) (kmask k - kmod k y):Nat):Int)))
 | _ => none
def arith (f:Int -> Int -> Int) (x y:AV):Option AV :=
 match x,y with
 | .int k a, .int k' b => bif keq k k' then some (.int k (awrap k (f a b))) else none
 | _,_ => none
def icmp (f:Int -> Int -> Bool) (x y:AV):Option AV :=
 match x,y with
 | .int k a, .int k' b => bif keq k k' then some (.bool (f a b)) else none
 | _,_ => none
def ishift (left:Bool) (k:IntKind) (x y:Int):Option AV :=
 if y < 0 then none else
 if left then some (.int k (awrap k (x * ((2 ^ (min y.toNat (kbits k)):Nat):Int)))) else some (.int k (x.fdiv ((2 ^ (min y.toNat (kbits k)):Nat):Int)))
def less:List Nat -> List Nat -> Bool
 | _, [] => false
 | [],_ :: _ => true
 | a :: x,b :: y => decide (a < b) || (Nat.beq a b && less x y)
def sbin (op:BinOp) (a b:List Nat):Option AV :=
 match op with
 | .add => if a.length + b.length <= 4611686018427387904 then some (.str (a ++ b)) else none
 | .eql => some (.bool (decide (a = b)))
 | .neq => some (.bool (!decide (a = b)))
 | .lss => some (.bool (less a b))
 | .leq => some (.bool (less a b || decide (a = b)))
 | .gtr => some (.bool (!(less a b || decide (a = b))))
 | .geq => some (.bool (!less a b))
 | _ => none
def eqCell (k:Nat) (x y:AV):Option Bool :=
 match x,y with
 | .int q a, .int q' b => bif Nat.beq k 1 && keq q q' then some (ieq a b) else none
 | .bool a, .bool b => bif Nat.beq k 0 then some (a == b) else none
 | .str a, .str b => bif Nat.beq k 2 then some (decide (a = b)) else none
 | _,_ => none
def eqCells:List Nat -> List AV -> List AV -> Option Bool
 | [], [], [] => some true
 | k :: ks,x :: xs,y :: ys => match eqCell k x y with
  | some true => eqCells ks xs ys
  | r => r
 | _,_,_ => none
def eqRef (k:Nat) (x y:AV):Option Bool :=
 match x,y with
 | .nilp, .nilp => bif Nat.beq k 0 then some true else none
 | .nilp, .ptr .. => bif Nat.beq k 0 then some false else none
 | .ptr .., .nilp => bif Nat.beq k 0 then some false else none
 | .nils, .nils => bif Nat.beq k 1 then some true else none
 | .nils, .slice .. => bif Nat.beq k 1 then some false else none
 | .slice .., .nils => bif Nat.beq k 1 then some false else none
 | .nilm, .nilm => bif Nat.beq k 2 then some true else none
 | .nilm, .map .. => bif Nat.beq k 2 then some false else none
 | .map .., .nilm => bif Nat.beq k 2 then some false else none
 | .nilf, .nilf => bif Nat.beq k 3 then some true else none
 | .nilf, .fn .. => bif Nat.beq k 3 then some false else none
 | .fn .., .nilf => bif Nat.beq k 3 then some false else none
 | _,_ => none
def eqv (e:EqK) (x y:AV):Option Bool :=
 match e with
 | .no => none
 | .bool => match x,y with
  | .bool a, .bool b => some (a == b)
  | _,_ => none
 | .flat ks => match x,y with
  | .agg a, .agg b => if a.length = ks.length /\ b.length = ks.length then eqCells ks a b else none
  | _,_ => none
 | .ref k => eqRef k x y
def ibits2 (op:BinOp) (x y:AV):Option AV :=
 match x,y with
 | .int k a, .int k' b => bif keq k k' then ibits op k a b else none
 | _,_ => none
def bin (op:BinOp):EqK -> AV -> AV -> Option AV :=
 match op with
 | .add => fun _ x y => match x,y with
  | .str a, .str b => sbin .add a b
  | x,y => arith (· + ·) x y
 | .sub => fun _ x y => arith (· - ·) x y
 | .mul => fun _ x y => arith (· * ·) x y
 | .quo => fun _ x y => match x,y with
  | .int k a, .int k' b => bif keq k k' then (bif ieq b 0 then none else some (.int k (awrap k (a.tdiv b)))) else none
  | _,_ => none
 | .rem => fun _ x y => match x,y with
  | .int k a, .int k' b => bif keq k k' then (bif ieq b 0 then none else some (.int k (a.tmod b))) else none
  | _,_ => none
 | .shl => fun _ x y => match x,y with
  | .int k a, .int _ b => ishift true k a b
  | _,_ => none
 | .shr => fun _ x y => match x,y with
  | .int k a, .int _ b => ishift false k a b
  | _,_ => none
 | .eql => fun e x y => match x,y with
  | .int k a, .int k' b => bif keq k k' then some (.bool (ieq a b)) else none
  | .str a, .str b => some (.bool (decide (a = b)))
  | x,y => match eqv e x y with | some b => some (.bool b) | none => none
 | .neq => fun e x y => match x,y with
  | .int k a, .int k' b => bif keq k k' then some (.bool (!ieq a b)) else none
  | .str a, .str b => some (.bool (!decide (a = b)))
  | x,y => match eqv e x y with | some b => some (.bool (!b)) | none => none
 | .lss => fun _ x y => match x,y with
  | .str a, .str b => sbin .lss a b
  | x,y => icmp ilt x y
 | .leq => fun _ x y => match x,y with
  | .str a, .str b => sbin .leq a b
  | x,y => icmp (fun a b => !ilt b a) x y
 | .gtr => fun _ x y => match x,y with
  | .str a, .str b => sbin .gtr a b
  | x,y => icmp (fun a b => ilt b a) x y
 | .geq => fun _ x y => match x,y with
  | .str a, .str b => sbin .geq a b
  | x,y => icmp (fun a b => !ilt a b) x y
 | op => fun _ x y => ibits2 op x y
def un (op:UnOp) (x:AV):Option AV :=
 match op,x with
 | .neg, .int k n => some (.int k (awrap k (0 - n)))
 | .xor, .int k n => ibits .xor k (-1) n
 | .not, .bool b => some (.bool !b)
 | _,_ => none
def bytesOf:List AV -> Option (List Nat)
 | [] => some []
 | .int .u8 n :: r => match bytesOf r with | some l => some (n.toNat % 256 :: l) | none => none
 | _ => none
def ofBytes:List Nat -> List AV
 | [] => []
 | b :: r => .int .u8 b :: ofBytes r
noncomputable def fills (z:List AV) (ps:List (Nat × Nat × AOpd)) (tm:List AV):Option (List AV) :=
 match ps with
 | [] => some z
 | (off,n,x) :: r => if (ev tm x).cells.length = n then match lay z off (ev tm x).cells with | some z' => fills z' r tm | none => none else none
noncomputable def optInt (tm:List AV):Option AOpd -> Option (Option Int)
 | none => some none
 | some x => match ev tm x with | .int _ n => some (some n) | _ => none
def bounds (len cap:Nat) (lo hi mx:Option Int):Option (Nat × Nat × Nat) :=
 match (match mx with | some m => if 0 <= m /\ m <= cap then some m.toNat else none | none => some cap) with
 | none => none
 | some m => match (match hi,mx with | some h,_ => if 0 <= h /\ h <= m then some h.toNat else none | none,none => some len | none,some _ => none) with
  | none => none
  | some h => match (match lo with | some l => if 0 <= l /\ l <= h then some l.toNat else none | none => some 0) with
   | none => none
   | some l => some (l,h,m)
def sl (sz:Nat) (x:AV) (lo hi mx:Option Int):Option AV :=
 match x with
 | .nils => match bounds 0 0 lo hi mx with | some _ => some .nils | none => none
 | .slice i o len (.exact c) => match bounds len c lo hi mx with
  | some (l,h,m) => some (.slice i (if m = l then o else o + l * sz) (h - l) (.exact (m - l)))
  | none => none
 | .slice i o len (.opn s) => if s = sz then match mx with
  | none => match bounds len len lo hi none with
   | some (l,h,_) => some (.slice i (o + l * sz) (h - l) (.opn s))
   | none => none
  | some _ => if len = 0 then none else match bounds len len lo hi mx with
   | some (l,h,m) => some (.slice i (if m = l then o else o + l * sz) (h - l) (.exact (m - l)))
   | none => none
  else none
 | _ => none
noncomputable def cellsOf (h:AHeap) (i:Nat):Option (List AV):=match h.get i with | some (.cells c _) => some c | _ => none
noncomputable def ownOf (h:AHeap) (i:Nat):Option (List AV):=match h.get i with | some (.cells c true) => some c | _ => none
noncomputable def srcOf (sz:Nat) (x:AV) (h:AHeap):Option (Nat × List AV) :=
 match x with
 | .nils => some (0, [])
 | .slice j o n _ => bif Nat.beq n 0 then some (0, []) else match cellsOf h j with
  | some c => match cut c o (n * sz) with | some r => bif r.all AV.scalar then some (n,r) else none | none => none
  | none => none
 | .str s => if sz = 1 then some (s.length,ofBytes s) else none
 | _ => none
def keyEq (ks:KeyK) (x y:AV):Option Bool :=
 match ks with
 | .one k => eqCell k x y
 | .flat ks => match x,y with
  | .agg a, .agg b => if a.length = ks.length /\ b.length = ks.length then eqCells ks a b else none
  | _,_ => none
def findKey (ks:KeyK) (k:AV):List (AV × AV) -> Nat -> Option (Option (Nat × AV))
 | [],_ => some none
 | (k',v) :: r,i => match keyEq ks k k' with
  | some true => some (some (i,v))
  | some false => findKey ks k r (i + 1)
  | none => none
def keyOK (ks:KeyK) (k:AV):Bool :=
 match ks with
 | .one _ => true
 | .flat l => match k with | .agg cs => decide (cs.length = l.length) | _ => false
def lookK (ks:KeyK) (k:AV) (es:List (AV × AV)):Option (Option (Nat × AV)):=bif keyOK ks k then findKey ks k es 0 else none
def setAt:List (AV × AV) -> Nat -> AV -> AV -> List (AV × AV)
 | [],_,_,_ => []
 | _ :: r,0,k,v => (k,v) :: r
 | e :: r,n + 1,k,v => e :: setAt r n k v
def maxs:AV -> List AV -> Option AV
 | x, [] => some x
 | .int k x, .int k' y :: r => if k = k' then maxs (.int k (if y > x then y else x)) r else none
 | _,_ => none
def mins:AV -> List AV -> Option AV
 | x, [] => some x
 | .int k x, .int k' y :: r => if k = k' then mins (.int k (if y < x then y else x)) r else none
 | _,_ => none
noncomputable def evalQ (op:AOp):List AV -> AHeap -> Option AV :=
 match op with
 | .mov x => fun tm h => some (ev tm x)
 | .pick c a b => fun tm h => match ev tm c with | .bool t => some (bif t then ev tm a else ev tm b) | _ => none
 | .build z ps => fun tm h => match fills z ps tm with | some c => some (.agg c) | none => none
 | .load n a => fun tm h => match ev tm a with
  | .ptr i o => match cellsOf h i with | some c => fit n o c | none => none
  | _ => none
 | .nilck x => fun tm h => match ev tm x with
  | .ptr i o => some (.ptr i o)
  | .fn (.func f) a b => some (.fn (.func f) a b)
  | .fn (.yield l) a b => some (.fn (.yield l) a b)
  | _ => none
 | .bin op e x y => fun tm h => bin op e (ev tm x) (ev tm y)
 | .un op x => fun tm h => un op (ev tm x)
 | .toInt k x => fun tm h => match ev tm x with | .int _ n => some (.int k (awrap k n)) | _ => none
 | .toStr x => fun tm h => match ev tm x with
  | .nils => some (.str [])
  | .slice i o n _ => match cellsOf h i with
   | some c => match cut c o n with
    | some r => match bytesOf r with | some l => some (.str l) | none => none
    | none => none
   | none => none
  | _ => none
 | .iface t x => fun tm h => some (.iface t (ev tm x))
 | .mkfn f fs cs => fun tm h => some (.fn f (evs tm fs) (evs tm cs))
 | .slice sz x lo hi mx => fun tm h => match optInt tm lo,optInt tm hi,optInt tm mx with
  | some l,some h,some m => sl sz (ev tm x) l h m
  | _,_,_ => none
 | .sliceA n sz x lo hi mx => fun tm h => match optInt tm lo,optInt tm hi,optInt tm mx,ev tm x with
  | some l,some h,some m, .ptr i o => match bounds n n l h m with
   | some (l,h,m) => some (.slice i (if m = l then o else o + l * sz) (h - l) (.exact (m - l)))
   | none => none
  | _,_,_,_ => none
 | .substr x lo hi => fun tm h => match optInt tm lo,optInt tm hi,ev tm x with
  | some l,some h, .str s => match bounds s.length s.length l h none with
   | some (l,h,_) => some (.str ((s.drop l).take (h - l)))
   | none => none
  | _,_,_ => none
 | .faddr off x => fun tm h => match ev tm x with | .ptr i o => some (.ptr i (o + off)) | _ => none
 | .field off n x => fun tm h => match ev tm x with | .agg cs => fit n off cs | _ => none
 | .iaddr none sz x i => fun tm h => match ev tm x,ev tm i with
  | .slice j o len _, .int _ i => if 0 <= i /\ i < len then some (.ptr j (o + i.toNat * sz)) else none
  | _,_ => none
 | .iaddr (some len) sz x i => fun tm h => match ev tm x,ev tm i with
  | .ptr j o, .int _ i => if 0 <= i /\ i < len then some (.ptr j (o + i.toNat * sz)) else none
  | _,_ => none
 | .index len sz n x i => fun tm h => match ev tm x,ev tm i with
  | .agg cs, .int _ i => if 0 <= i /\ i < len then fit n (i.toNat * sz) cs else none
  | _,_ => none
 | .indexS x i => fun tm h => match ev tm x,ev tm i with
  | .str s, .int _ i => if 0 <= i then match s[i.toNat]? with | some b => some (.int .u8 b) | none => none else none
  | _,_ => none
 | .lookup ks zero ok m k => fun tm h => match ev tm m with
  | .nilm => bif keyOK ks (ev tm k) then some (if ok then .tup [zero, .bool false] else zero) else none
  | .map i => match h.get i with
   | some (.map es) => match lookK ks (ev tm k) es with
    | some (some (_,v)) => some (if ok then .tup [v, .bool true] else v)
    | some none => some (if ok then .tup [zero, .bool false] else zero)
    | none => none
   | _ => none
  | _ => none
 | .extr i x => fun tm h => match ev tm x with | .tup vs => vs[i]? | _ => none
 | .len k x => fun tm h => match k,ev tm x with
  | 0, .str s => some (.int .i64 s.length)
  | 1, .nils => some (.int .i64 0)
  | 1, .slice _ _ n _ => some (.int .i64 n)
  | 2, .nilm => some (.int .i64 0)
  | 2, .map i => match h.get i with | some (.map es) => some (.int .i64 es.length) | _ => none
  | _,_ => none
 | .lenA n => fun tm h => some (.int .i64 n)
 | .mx xs => fun tm h => match evs tm xs with | x :: r => maxs x r | [] => none
 | .mn xs => fun tm h => match evs tm xs with | x :: r => mins x r | [] => none
 | _ => fun tm h => none
noncomputable def fillsS (sz:Nat) (z:List AV) (ps:List (Nat × AOpd)) (tm:List AV):Option (List AV) :=
 match ps with
 | [] => some z
 | (i,x) :: r => if (ev tm x).cells.length = sz then match lay z (i * sz) (ev tm x).cells with | some z' => fillsS sz z' r tm | none => none else none
noncomputable def evalA (op:AOp):List AV -> AHeap -> Option (AObj × AV) :=
 match op with
 | .alloc z => fun tm h => some (.cells z true, .ptr h.next 0)
 | .box x => fun tm h => some (.cells (ev tm x).cells true, .ptr h.next 0)
 | .bslice len sz z ps => fun tm h => match fillsS sz z ps tm with | some c => some (.cells c true, .slice h.next 0 len (.exact len)) | none => none
 | .mkslice _ bytes z l c => fun tm h => match ev tm l,ev tm c with
  | .int _ l, .int _ c => if 0 <= l /\ l <= c /\ c * bytes <= 140737488355328 then some (.cells (repl c.toNat z) true, .slice h.next 0 l.toNat (.exact c.toNat)) else none
  | _,_ => none
 | .mkmap => fun tm h => some (.map [], .map h.next)
 | .toBytes x => fun tm h => match ev tm x with
  | .str s => some (.cells (ofBytes s) true, .slice h.next 0 s.length (.opn 1))
  | _ => none
 | _ => fun tm h => none
inductive Callee where
 | fn (f:Nat)
 | yield (l:Nat)
noncomputable def evalE (op:AOp):(Callee -> List AV -> AHeap -> Option (AV × AHeap)) -> List AV -> AHeap -> Option (AV × AHeap) :=
 match op with
 | .store n a x => fun call tm h => match ev tm a with
  | .ptr i o => match ownOf h i with
   | some c => if (ev tm x).cells.length = n /\ (ev tm x).cells.all AV.scalar = true then match lay c o (ev tm x).cells with
     | some c' => some (aundef,h.set i (.cells c' true))
     | none => none
    else none
   | none => none
  | _ => none
 | .mupd ks m k v => fun call tm h => match ev tm m with
  | .map i => match h.get i with
   | some (.map es) => match lookK ks (ev tm k) es with
    | some (some (j,_)) => some (aundef,h.set i (.map (setAt es j (ev tm k) (ev tm v))))
    | some none => some (aundef,h.set i (.map (es ++ [(ev tm k,ev tm v)])))
    | none => none
   | _ => none
  | _ => none
 | .call f args => fun call tm h => match ev tm f with
  | .fn (.func g) first captured => call (.fn g) (first ++ evs tm args ++ captured) h
  | .fn (.yield l) first captured => match first,captured with
   | [], [] => call (.yield l) (evs tm args) h
   | _,_ => none
  | _ => none
 | .append sz bytes _ s x => fun call tm h => match srcOf sz (ev tm x) h with
  | none => none
  | some (n,new) => match ev tm s with
   | .nils => if n = 0 then some (.nils,h) else
    if n * bytes <= 140737488355328 then some (.slice h.next 0 n (.opn sz),h.push (.cells new true)) else none
   | .slice i o len (.exact c) =>
    if len + n <= c then
     if n = 0 then some (.slice i o len (.exact c),h) else
     match ownOf h i with
     | some cs => match lay cs (o + len * sz) new with
      | some cs' => some (.slice i o (len + n) (.exact c),h.set i (.cells cs' true))
      | none => none
     | none => none
    else if (len + n) * bytes <= 140737488355328 then match cellsOf h i with
     | some cs => match cut cs o (len * sz) with
      | some old => some (.slice h.next 0 (len + n) (.opn sz),h.push (.cells (old ++ new) true))
      | none => none
     | none => none
    else none
   | .slice i o len (.opn z) => if z = sz /\ (len + n) * bytes <= 140737488355328 then match ownOf h i with
     | some cs =>
      if o + (len + n) * sz <= cs.length then match lay cs (o + len * sz) new with
       | some cs' => some (.slice i o (len + n) (.opn z),h.set i (.cells cs' true))
       | none => none
      else if o + len * sz = cs.length then some (.slice h.next 0 (len + n) (.opn sz),(h.del i).push (.cells (drops cs o ++ new) true))
      else none
     | none => none
    else none
   | _ => none
 | .copy sz d x => fun call tm h => match ev tm d,srcOf sz (ev tm x) h with
  | .nils,some _ => some (.int .i64 0,h)
  | .slice i o len _,some (n,new) =>
   if min n len = 0 then some (.int .i64 0,h) else
   match ownOf h i,cut new 0 (min n len * sz) with
   | some cs,some new' => match lay cs o new' with
    | some cs' => some (.int .i64 (min n len:Nat),h.set i (.cells cs' true))
    | none => none
   | _,_ => none
  | _,_ => none
 | _ => fun call tm h => none
inductive Cls where
 | q
 | a
 | e
 deriving DecidableEq
def AOp.cls:AOp -> Cls
 | .alloc _ | .box _ | .bslice .. | .mkslice .. | .mkmap | .toBytes _ => .a
 | .store .. | .mupd .. | .call .. | .append .. | .copy .. => .e
 | _ => .q
structure St where
 tm:List AV
 h:AHeap
 deriving Inhabited
noncomputable def putD (tm:List AV) (d:Option Nat) (v:AV):List AV:=match d with | some t => put tm t v | none => tm
abbrev CallT:=Callee -> List AV -> AHeap -> Option (AV × AHeap)
noncomputable def step1 (o:AOper) (call:CallT) (s:St):Option St :=
 AOper.rec (motive:=fun _ => CallT -> St -> Option St) (fun dst op _ call s =>
  Cls.rec (motive:=fun _ => Option Nat -> AOp -> CallT -> St -> Option St)
   (fun dst op _ s => Option.rec (motive:=fun _ => Option St) none (fun v => some ⟨putD s.tm dst v,s.h⟩) (evalQ op s.tm s.h))
   (fun dst op _ s => Option.rec (motive:=fun _ => Option St) none (fun p => some ⟨putD s.tm dst p.2,s.h.push p.1⟩) (evalA op s.tm s.h))
   (fun dst op call s => Option.rec (motive:=fun _ => Option St) none (fun p => some ⟨putD s.tm dst p.1,p.2⟩) (evalE op call s.tm s.h)) op.cls dst op call s) o call s
theorem step1_q {o:AOper} {call:CallT} {s:St} (h:o.op.cls = .q):step1 o call s = (match evalQ o.op s.tm s.h with | some v => some ⟨putD s.tm o.dst v,s.h⟩ | none => none):=by
 cases o; dsimp only at h; simp only [step1,h]; cases evalQ _ s.tm s.h <;> rfl
theorem step1_a {o:AOper} {call:CallT} {s:St} (h:o.op.cls = .a):step1 o call s = (match evalA o.op s.tm s.h with | some (b,v) => some ⟨putD s.tm o.dst v,s.h.push b⟩ | none => none):=by
 cases o; dsimp only at h; simp only [step1,h]; cases evalA _ s.tm s.h <;> rfl
theorem step1_e {o:AOper} {call:CallT} {s:St} (h:o.op.cls = .e):step1 o call s = (match evalE o.op call s.tm s.h with | some (v,h') => some ⟨putD s.tm o.dst v,h'⟩ | none => none):=by
 cases o; dsimp only at h; simp only [step1,h]; cases evalE _ call s.tm s.h <;> rfl
noncomputable def wanted (tm:List AV) (g:Option (Nat × Bool)):Bool :=
 Option.rec (motive:=fun _ => Bool) true (fun p => match nth tm p.1 with | .bool b => b == p.2 | _ => false) g
noncomputable def runOps (l:List AOper):CallT -> St -> Option St :=
 List.rec (motive:=fun _ => CallT -> St -> Option St) (fun _ s => some s)
  (fun o _ ih call s => Bool.rec (motive:=fun _ => Option St)
   (ih call ⟨putD s.tm o.dst aundef,s.h⟩)
   (Option.rec (motive:=fun _ => Option St) none (fun s' => ih call s') (step1 o call s)) (wanted s.tm o.guard)) l
theorem runOps_nil (call:CallT) (s:St):runOps [] call s = some s:=rfl
theorem runOps_cons (o : AOper) (r : List AOper) (call : CallT) (s : St) :
  runOps (o :: r) call s = if wanted s.tm o.guard = true then (match step1 o call s with | some s' => runOps r call s' | none => none) else runOps r call ⟨putD s.tm o.dst aundef,s.h⟩:=by
 show Bool.rec (motive:=fun _ => Option St) (runOps r call ⟨putD s.tm o.dst aundef,s.h⟩) (Option.rec (motive:=fun _ => Option St) none (fun s' => runOps r call s') (step1 o call s)) (wanted s.tm o.guard) = _
 cases wanted s.tm o.guard
 ·simp
 ·cases step1 o call s <;> simp
def AObj.beqC:Option AObj -> AObj -> Bool
 | some (.cells c r), .cells c' r' => AV.beqs c c' && (r == r')
 | some (.map []), .map [] => true
 | _,_ => false
noncomputable def recheck (o:AOper) (tm:List AV) (h:AHeap) (v:AV) (h':AHeap):Bool :=
 match o.op.cls with
 | .q => match evalQ o.op tm h' with | some v' => AV.beq v' v | none => false
 | .a => match evalA o.op tm h with | some (b,_) => AObj.beqC (h'.get h.next) b | none => false
 | .e => true
def checks:List ((AHeap -> Bool) × Nat) -> AHeap -> Bool
 | [],_ => true
 | (_,0) :: r,h => checks r h
 | (f,_ + 1) :: r,h => bif f h then checks r h else false
def lower:List ((AHeap -> Bool) × Nat) -> List ((AHeap -> Bool) × Nat)
 | [] => []
 | (_,0) :: r => lower r
 | (_,1) :: r => lower r
 | (f,n + 2) :: r => (f,n + 1) :: lower r
noncomputable def runDraw (l:List (AOper × Nat)):CallT -> St -> List ((AHeap -> Bool) × Nat) -> Option St :=
 List.rec (motive:=fun _ => CallT -> St -> List ((AHeap -> Bool) × Nat) -> Option St) (fun _ s _ => some s)
  (fun p _ ih call s ps => Bool.rec (motive:=fun _ => Option St)
   (ih call ⟨putD s.tm p.1.dst aundef,s.h⟩ (match p.1.op.cls with | .e => lower ps | _ => ps))
   (Option.rec (motive:=fun _ => Option St) none (fun s' => match p.1.op.cls with
    | .e => bif checks ps s'.h then ih call s' (lower ps) else none
    | _ => match p.2 with
     | 0 => ih call s' ps
     | n + 1 => ih call s' ((recheck p.1 s.tm s.h (match p.1.dst with | some d => nth s'.tm d | none => aundef),n + 1) :: ps)) (step1 p.1 call s)) (wanted s.tm p.1.guard)) l
theorem runDraw_nil (call:CallT) (s:St) (ps:List ((AHeap -> Bool) × Nat)):runDraw [] call s ps = some s:=rfl
theorem runDraw_cons (o : AOper) (n : Nat) (r : List (AOper × Nat)) (call : CallT) (s : St) (ps : List ((AHeap -> Bool) × Nat)) :
  runDraw ((o,n) :: r) call s ps = if wanted s.tm o.guard = true then (match step1 o call s with
   | some s' => (match o.op.cls with
    | .e => bif checks ps s'.h then runDraw r call s' (lower ps) else none
    | _ => match n with
     | 0 => runDraw r call s' ps
     | n + 1 => runDraw r call s' ((recheck o s.tm s.h (match o.dst with | some d => nth s'.tm d | none => aundef),n + 1) :: ps))
   | none => none) else runDraw r call ⟨putD s.tm o.dst aundef,s.h⟩ (match o.op.cls with | .e => lower ps | _ => ps):=by
 show Bool.rec (motive := fun _ => Option St) (runDraw r call ⟨putD s.tm o.dst aundef, s.h⟩ (match o.op.cls with | .e => lower ps | _ => ps))
   (Option.rec (motive:=fun _ => Option St) none (fun s' => match o.op.cls with
    | .e => bif checks ps s'.h then runDraw r call s' (lower ps) else none
    | _ => match n with
     | 0 => runDraw r call s' ps
     | n + 1 => runDraw r call s' ((recheck o s.tm s.h (match o.dst with | some d => nth s'.tm d | none => aundef),n + 1) :: ps)) (step1 o call s)) (wanted s.tm o.guard) = _
 cases wanted s.tm o.guard
 ·simp
 ·cases step1 o call s <;> simp
inductive AX where
 | normal
 | exit (id:Nat)
 | ret
 deriving DecidableEq,Inhabited
abbrev XR:=Option (AX × St)
noncomputable def iter (k:Nat):(St -> XR) -> St -> XR :=
 Nat.rec (motive:=fun _ => (St -> XR) -> St -> XR) (fun _ _ => none)
  (fun _ ih f s => match f s with
   | some (.normal,s') => ih f s'
   | r => r) k
theorem iter_zero (f:St -> XR) (s:St):iter 0 f s = none:=rfl
theorem iter_succ (k:Nat) (f:St -> XR) (s:St):iter (k + 1) f s = (match f s with | some (.normal,s') => iter k f s' | r => r):=rfl
noncomputable def endRange (tm:List AV) (l:Nat) (h2:AHeap):XR :=
  match h2.get l with
  | some (.loop fn tm' ps' a' b' st pend) => if st = 1 then none else
    (match pend with
     | none => some (.normal,⟨tm,h2.set l (.loop fn tm' ps' a' b' 3 none)⟩)
     | some .ret => some (.ret,⟨tm,h2.set l (.loop fn tm' ps' a' b' 3 (some .ret))⟩)
     | some (.exit id) => some (.exit id,⟨tm,h2.set l (.loop fn tm' ps' a' b' 3 (some (.exit id)))⟩))
  | _ => none
noncomputable def exec (c:ACode):CallT -> Nat -> St -> XR :=
 ACode.rec (motive:=fun _ => CallT -> Nat -> St -> XR)
  (fun _ _ s => some (.normal,s))
  (fun l call _ s => match runOps l call s with | some s' => some (.normal,s') | none => none)
  (fun l call _ s => match runDraw l call s [] with | some s' => some (.normal,s') | none => none)
  (fun _ _ iha ihb call fuel s => match iha call fuel s with
   | some (.normal,s') => ihb call fuel s'
   | r => r)
  (fun c _ _ iha ihb call fuel s => match ev s.tm c with
   | .bool b => Bool.rec (motive:=fun _ => XR) (ihb call fuel s) (iha call fuel s) b
   | _ => none)
  (fun id _ ih call fuel s => match ih call fuel s with
   | some (.exit id',s') => bif Nat.beq id' id then some (.normal,s') else some (.exit id',s')
   | r => r)
  (fun _ ih call fuel s => iter fuel (ih call fuel) s)
  (fun f ps a b _ _ call _ s => match ev s.tm f with
   | .fn (.func g) first captured =>
    match call (.fn g) (first ++ [.fn (.yield s.h.next) [] []] ++ captured) (s.h.push (.loop 0 s.tm ps a b 0 none)) with
    | some (_,h2) => endRange s.tm s.h.next h2
    | none => none
   | _ => none)
  (fun id _ _ s => some (.exit id,s))
  (fun _ ih call fuel s => ih call fuel s)
  (fun _ _ s => some (.ret,s)) c
section
variable (call:CallT) (n:Nat) (s:St)
theorem exec_skip:exec .skip call n s = some (.normal,s):=rfl
theorem exec_ops (l:List AOper):exec (.ops l) call n s = (match runOps l call s with | some s' => some (.normal,s') | none => none):=rfl
theorem exec_draw (l:List (AOper × Nat)):exec (.draw l) call n s = (match runDraw l call s [] with | some s' => some (.normal,s') | none => none):=rfl
theorem exec_seq (a b:ACode):exec (.seq a b) call n s = (match exec a call n s with | some (.normal,s') => exec b call n s' | r => r):=rfl
theorem exec_cond (c:AOpd) (a b:ACode):exec (.cond c a b) call n s = (match ev s.tm c with | .bool t => (if t = true then exec a call n s else exec b call n s) | _ => none):=by
 show (match ev s.tm c with | .bool t => Bool.rec (motive:=fun _ => XR) (exec b call n s) (exec a call n s) t | _ => none) = _
 cases ev s.tm c <;> simp only []
 rename_i t; cases t <;> rfl
def blockX (id:Nat):XR -> XR
 | some (.exit id',s') => if id' = id then some (.normal,s') else some (.exit id',s')
 | r => r
theorem exec_block (id:Nat) (b:ACode):exec (.block id b) call n s = blockX id (exec b call n s):=by
  show (match exec b call n s with | some (AX.exit id',s') => bif Nat.beq id' id then some (AX.normal,s') else some (AX.exit id',s') | r => r) = _
  cases exec b call n s with
  | none => rfl
  | some p => obtain ⟨x,s'⟩:=p; cases x with
    | exit id' => by_cases h : id' = id
                  · subst h; simp [blockX]
                  · have:Nat.beq id' id = false:=by cases hb:Nat.beq id' id <;> simp_all
                    simp [h,this,blockX]
    | _ => rfl
theorem exec_loop (b:ACode):exec (.loop b) call n s = iter n (exec b call n) s:=rfl
theorem exec_range (f : AOpd) (ps : List Nat) (a b : ACode) : exec (.rangeFunc f ps a b) call n s = (match ev s.tm f with
      | .fn (.func g) first captured =>
        match call (.fn g) (first ++ [.fn (.yield s.h.next) [] []] ++ captured) (s.h.push (.loop 0 s.tm ps a b 0 none)) with
        | some (_,h2) => endRange s.tm s.h.next h2
        | none => none
      | _ => none):=rfl
theorem exec_exit (id:Nat):exec (.exit id) call n s = some (.exit id,s):=rfl
theorem exec_scope (b:ACode):exec (.scope b) call n s = exec b call n s:=rfl
theorem exec_ret:exec .ret call n s = some (.ret,s):=rfl
end
inductive ARes where
 | tmp (t:Nat)
 | cell (t:Nat) (n:Option Nat)
 deriving Inhabited
structure AFn where
 nt:Nat
 res:List ARes
 body:ACode
 deriving Inhabited
noncomputable def resOf (tm:List AV) (h:AHeap):ARes -> Option AV
 | .tmp t => some (nth tm t)
 | .cell t n => match nth tm t with
  | .ptr i o => match cellsOf h i with | some c => fit n o c | none => none
  | _ => none
noncomputable def resOfs (tm:List AV) (h:AHeap):List ARes -> Option (List AV)
 | [] => some []
 | r :: rs => match resOf tm h r,resOfs tm h rs with | some v,some vs => some (v :: vs) | _,_ => none
noncomputable def result (rs:List ARes) (tm:List AV) (h:AHeap):Option AV :=
 match resOfs tm h rs with
 | some [v] => some v
 | some vs => some (.tup vs)
 | none => none
noncomputable def putsT:List Nat -> List AV -> List AV -> List AV
 | p :: ps,v :: vs,tm => putsT ps vs (put tm p v)
 | _,_,tm => tm
abbrev Oracle:=Nat -> List AV -> AHeap -> Option (AV × AHeap)
abbrev FnTab:=Nat -> Option AFn
noncomputable def finish (rs:List ARes):XR -> Option (AV × AHeap)
 | some (.normal,s) => (match result rs s.tm s.h with | some v => some (v,s.h) | none => none)
 | some (.ret,s) => (match result rs s.tm s.h with | some v => some (v,s.h) | none => none)
 | _ => none
noncomputable def endRound (l:Nat):XR -> Option (AV × AHeap)
 | some (x,s2) => (match s2.h.get l with
  | some (.loop fn tm' ps' a' b' _ _) => (match x with
   | .normal => some (.bool true,s2.h.set l (.loop fn tm' ps' a' b' 0 none))
   | .ret => some (.bool false,s2.h.set l (.loop fn tm' ps' a' b' 2 (some .ret)))
   | .exit id => some (.bool false,s2.h.set l (.loop fn tm' ps' a' b' 2 (some (.exit id)))))
  | _ => none)
 | none => none
noncomputable def callF (T:FnTab) (I:Oracle) (n:Nat):CallT :=
 Nat.rec (motive:=fun _ => CallT) (fun _ _ _ => none)
  (fun n ih c args h => match c with
   | .fn f => (match I f args h with
    | some r => some r
    | none => match T f with
     | none => none
     | some fn => finish fn.res (exec fn.body ih n ⟨args ++ List.replicate (fn.nt - args.length) aundef,h⟩))
   | .yield l => match h.get l with
    | some (.loop _ tm ps a b 0 _) => if args.length = ps.length then
      (match exec a ih n ⟨putsT ps args tm,h⟩ with
      | some (.normal,s1) => (match s1.h.get l with
       | some (.loop fn tm' ps' a' b' 0 pend) => endRound l (exec b ih n ⟨s1.tm,s1.h.set l (.loop fn tm' ps' a' b' 1 pend)⟩)
       | _ => none)
      | _ => none)
     else none
    | _ => none) n
theorem callF_zero (T:FnTab) (I:Oracle) (c:Callee) (args:List AV) (h:AHeap):callF T I 0 c args h = none:=rfl
theorem callF_fn (T : FnTab) (I : Oracle) (n f : Nat) (args : List AV) (h : AHeap) : callF T I (n + 1) (.fn f) args h = (match I f args h with
        | some r => some r
        | none => match T f with
          | none => none
          | some fn => finish fn.res (exec fn.body (callF T I n) n ⟨args ++ List.replicate (fn.nt - args.length) aundef,h⟩)):=rfl
theorem callF_yield (T : FnTab) (I : Oracle) (n l : Nat) (args : List AV) (h : AHeap) : callF T I (n + 1) (.yield l) args h = (match h.get l with
        | some (.loop _ tm ps a b 0 _) => if args.length = ps.length then
            (match exec a (callF T I n) n ⟨putsT ps args tm,h⟩ with
            | some (.normal,s1) => (match s1.h.get l with
              | some (.loop fn tm' ps' a' b' 0 pend) => endRound l (exec b (callF T I n) n ⟨s1.tm,s1.h.set l (.loop fn tm' ps' a' b' 1 pend)⟩)
              | _ => none)
            | _ => none)
          else none
        | _ => none):=rfl
end Go.AM
namespace Go.AM
open Go
noncomputable section
mutual
def absV:Value -> Option AV
 | .int k n => some (.int k n)
 | .bool b => some (.bool b)
 | .string s => some (.str (s.data.toList.map (·.toNat)))
 | .pointer none => some .nilp
 | .slice none 0 0 => some .nils
 | .map none => some .nilm
 | .nilFunc => some .nilf
 | .nilIface => some .nili
 | .func (.func f) ⟨[]⟩ ⟨[]⟩ => some (.fn (.func f) [] [])
 | .agg ⟨cs⟩ => match absVs cs with | some l => some (.agg l) | none => none
 | .tuple ⟨cs⟩ => match absVs cs with | some l => some (.tup l) | none => none
 | _ => none
def absVs:List Value -> Option (List AV)
 | [] => some []
 | v :: vs => match absV v with
  | some a => (match absVs vs with | some l => some (a :: l) | none => none)
  | none => none
end
def bad:AOp := .nilck (.lit .nilp)
def trOpd:Operand -> Option AOpd
 | .tmp t => some (.tmp t)
 | .const v => match absV v with | some a => some (.lit a) | none => none
 | .global _ => none
 | .func f => some (.lit (.fn (.func f) [] []))
def trOpds:List Operand -> Option (List AOpd)
 | [] => some []
 | x :: xs => match trOpd x,trOpds xs with | some a,some l => some (a :: l) | _,_ => none
def trO:Option Operand -> Option (Option AOpd)
 | none => some none
 | some x => match trOpd x with | some a => some (some a) | none => none
def zeroOf (P:Program) (t:TypeId):Option (List AV) :=
 match P.info? t with
 | some i => match i.zero with
  | some z => absVs z.cells.toList
  | none => none
 | none => none
def zeroV (P:Program) (t:TypeId):Option AV :=
 match P.info? t with
 | some i => match i.zero with
  | some z => absV z
  | none => none
 | none => none
def sizeT (P:Program) (t:TypeId):Option Nat:=match P.info? t with | some i => some i.size | none => none
def bytesT (P:Program) (t:TypeId):Option Nat:=match P.info? t with | some i => some i.bytes | none => none
def aggT (P:Program) (t:TypeId):Option Bool :=
 match P.underlying t with
 | some (.struct _) => some true
 | some (.array _ _) => some true
 | some _ => some false
 | none => none
def layT (P:Program) (t:TypeId):Option (Option Nat) :=
 match aggT P t,sizeT P t with
 | some true,some n => some (some n)
 | some false,some _ => some none
 | _,_ => none
def flatT (P:Program):Nat -> TypeId -> Option (List Nat)
 | 0,_ => none
 | d + 1,t =>
  match P.underlying t with
  | some .bool => some [0]
  | some (.int _) => some [1]
  | some .string => some [2]
  | some (.struct fs) => if P.stoodInHeld t then none else flatFs P (flatT P d) fs.toList
  | some (.array n e) => (match flatT P d e with | some ks => if sizeT P e = some ks.length then some (List.replicate n ks).flatten else none | none => none)
  | _ => none
where
 flatFs (P:Program) (f:TypeId -> Option (List Nat)):List Field -> Option (List Nat)
 | [] => some []
 | x :: r => if x.name = "_" then none else match f x.type, flatFs P f r with
  | some ks,some l => if sizeT P x.type = some ks.length then some (ks ++ l) else none
  | _,_ => none
def packed (P:Program):Nat -> List Field -> Bool
 | _, [] => true
 | o,f :: r => f.offset == o && (match sizeT P f.type with | some n => packed P (o + n) r | none => false)
def packedT (P:Program):Nat -> TypeId -> Bool
 | 0,_ => false
 | d + 1,t =>
  match P.underlying t with
  | some (.struct fs) => packed P 0 fs.toList && fs.toList.all fun f => packedT P d f.type
  | some (.array _ e) => packedT P d e
  | some _ => true
  | none => false
def eqK (P:Program) (t:TypeId):EqK :=
 match P.underlying t with
 | some .bool => .bool
 | some (.struct _) => flatE
 | some (.array _ _) => flatE
 | some (.pointer _) => .ref 0
 | some (.slice _) => .ref 1
 | some (.map _ _) => .ref 2
 | some (.func ..) => .ref 3
 | _ => .no
where flatE:EqK:=match flatT P 5 t with
 | some ks => if packedT P 5 t = true /\ P.eqGuardType P.depth t = false then .flat ks else .no
 | none => .no
def keyT (P:Program) (t:TypeId):Option KeyK :=
 match P.underlying t with
 | some (.int _) => some (.one 1)
 | some .string => some (.one 2)
 | some .bool => some (.one 0)
 | some (.array _ e) => (match P.underlying e,flatT P 5 t with
  | some (.int _),some ks => if packedT P 5 t = true then some (.flat ks) else none
  | _,_ => none)
 | _ => none
def trParts (xs:List (Nat × Operand)):Option (List (Nat × AOpd)) :=
 match xs with
 | [] => some []
 | (i,x) :: r => match trOpd x,trParts r with | some a,some l => some ((i,a) :: l) | _,_ => none
def partsS (P:Program) (fs:Array Field):List (Nat × AOpd) -> Option (List (Nat × Nat × AOpd))
 | [] => some []
 | (i,x) :: r => match fs[i]? with
  | some f => (match sizeT P f.type,partsS P fs r with | some n,some l => some ((f.offset,n,x) :: l) | _,_ => none)
  | none => none
def trCall (P:Program) (c:Call):Option AOp :=
 match trOpds c.args.toList with
 | none => none
 | some args => match c.callee with
  | .value f => (match trOpd f with | some f => some (.call f args) | none => none)
  | .invoke _ _ => none
  | .builtin .append => (match args,c.argTypes.toList with
   | [s,x], [ts,tx] => (match P.underlying ts,P.underlying tx with
    | some (.slice e),some (.slice _) | some (.slice e),some .string => (match sizeT P e,bytesT P e,zeroOf P e with
     | some sz,some b,some z => if 1 <= sz /\ 1 <= b /\ z.length = sz then some (.append sz b z s x) else none
     | _,_,_ => none)
    | _,_ => none)
   | _,_ => none)
  | .builtin .copy => (match args,c.argTypes.toList with
   | [d,x],t :: _ => (match P.underlying t with
    | some (.slice e) => (match sizeT P e with | some sz => if 1 <= sz then some (.copy sz d x) else none | none => none)
    | _ => none)
   | _,_ => none)
  | .builtin .len => (match args,c.argTypes.toList with
   | [x],t :: _ => (match P.underlying t with
    | some (.array n _) => some (.lenA n)
    | some (.pointer a) => (match P.underlying a with | some (.array n _) => some (.lenA n) | _ => none)
    | some .string => some (.len 0 x)
    | some (.slice _) => some (.len 1 x)
    | some (.map _ _) => some (.len 2 x)
    | _ => none)
   | _,_ => none)
  | .builtin .max => some (.mx args)
  | .builtin .min => some (.mn args)
  | _ => none
def trOp (P:Program) (op:Op):Option AOp :=
 match op with
 | .move x | .assign x => (match trOpd x with | some a => some (.mov a) | none => none)
 | .pick c a b => (match trOpd c,trOpd a,trOpd b with | some c,some a,some b => some (.pick c a b) | _,_,_ => none)
 | .alloc t => (match zeroOf P t with | some z => some (.alloc z) | none => none)
 | .box _ x => (match trOpd x with | some a => some (.box a) | none => none)
 | .build t ps => (match zeroOf P t,trParts ps.toList,P.underlying t with
  | some z,some l,some (.struct fs) => if fs.toList.all (fun f => (sizeT P f.type).isSome) = true then (match partsS P fs l with | some l => some (.build z l) | none => none) else none
  | some z,some l,some (.array _ e) => (match sizeT P e with | some sz => some (.build z (l.map fun p => (p.1 * sz,sz,p.2))) | none => none)
  | _,_,_ => none)
 | .buildSlice t n ps => (match P.underlying t,trParts ps.toList with
  | some (.slice e),some l => (match sizeT P e,zeroOf P e with
   | some sz,some z => if n * sz <= 16777216 /\ 1 <= sz /\ z.length = sz then some (.bslice n sz (repl n z) l) else none
   | _,_ => none)
  | _,_ => none)
 | .load t a => (match layT P t,trOpd a with | some n,some a => some (.load n a) | _,_ => none)
 | .store t a x => (match sizeT P t,trOpd a,trOpd x with | some n,some a,some x => some (.store n a x) | _,_,_ => none)
 | .nilCheck x => (match trOpd x with | some a => some (.nilck a) | none => none)
 | .binOp o t x y _ => (match trOpd x,trOpd y with | some x,some y => some (.bin o (eqK P t) x y) | _,_ => none)
 | .unOp o _ x => (match trOpd x with | some x => some (.un o x) | none => none)
 | .convert s d x => (match P.underlying s,P.underlying d,trOpd x with
  | some _,some (.int k),some x => some (.toInt k x)
  | some .string,some .string,some x => some (.substr x none none)
  | some .string,some (.slice e),some x => (match P.underlying e with | some (.int .u8) => some (.toBytes x) | _ => none)
  | some (.slice e),some .string,some x => (match P.underlying e with | some (.int .u8) => some (.toStr x) | _ => none)
  | _,_,_ => none)
 | .makeInterface t x => (match P.underlying t,trOpd x with
  | some (.interface _),_ => none
  | some _,some x => some (.iface t x)
  | _,_ => none)
 | .makeFunc (.func f) first captured => (match trOpds first.toList,trOpds captured.toList with | some a,some b => some (.mkfn (.func f) a b) | _,_ => none)
 | .makeMap _ none => some .mkmap
 | .makeSlice t l c => (match P.underlying t,trOpd l,trOpd c with
  | some (.slice e),some l,some c => (match sizeT P e,bytesT P e,zeroOf P e with
   | some sz,some b,some z => if 1 <= sz /\ 1 <= b /\ z.length = sz then some (.mkslice sz b z l c) else none
   | _,_,_ => none)
  | _,_,_ => none)
 | .slice t x lo hi mx => (match trOpd x,trO lo,trO hi,trO mx with
  | some x,some lo,some hi,some mx => (match P.underlying t with
   | some (.array n e) => (match sizeT P e with | some sz => some (.sliceA n sz x lo hi mx) | none => none)
   | some .string => (match mx with | none => some (.substr x lo hi) | some _ => none)
   | some (.slice e) => (match sizeT P e with | some sz => if 1 <= sz then some (.slice sz x lo hi mx) else none | none => none)
   | some (.pointer a) => (match P.underlying a with
    | some (.array n e) => (match sizeT P e with | some sz => some (.sliceA n sz x lo hi mx) | none => none)
    | _ => none)
   | _ => none)
  | _,_,_,_ => none)
 | .fieldAddr s x f => (match P.underlying s,trOpd x with
  | some (.struct fs),some x => (match fs[f]? with
   | some f => (match sizeT P f.type with | some (_ + 1) => some (.faddr f.offset x) | _ => none)
   | none => none)
  | _,_ => none)
 | .field t x f => (match P.underlying t,trOpd x with
  | some (.struct fs),some x => (match fs[f]? with
   | some f => (match layT P f.type with | some n => some (.field f.offset n x) | none => none)
   | none => none)
  | _,_ => none)
 | .indexAddr t x i => (match P.underlying t,trOpd x,trOpd i with
  | some (.array n e),some x,some i => (match sizeT P e with | some sz => some (.iaddr (some n) sz x i) | none => none)
  | some (.slice e),some x,some i => (match sizeT P e with | some sz => some (.iaddr none sz x i) | none => none)
  | _,_,_ => none)
 | .index t x i => (match P.underlying t,trOpd x,trOpd i with
  | some (.array n e),some x,some i => (match sizeT P e,layT P e with | some sz,some l => some (.index n sz l x i) | _,_ => none)
  | some .string,some x,some i => some (.indexS x i)
  | _,_,_ => none)
 | .lookup t m k ok => (match P.underlying t,trOpd m,trOpd k with
  | some (.map kt e),some m,some k => (match keyT P kt,zeroV P e with | some ks,some z => some (.lookup ks z ok m k) | _,_ => none)
  | _,_,_ => none)
 | .mapUpdate t m k v | .insert t m k v => (match P.underlying t,trOpd m,trOpd k,trOpd v with
  | some (.map kt _),some m,some k,some v => (match keyT P kt with | some ks => some (.mupd ks m k v) | none => none)
  | _,_,_,_ => none)
 | .extract x i => (match trOpd x with | some x => some (.extr i x) | none => none)
 | .call c => trCall P c
 | _ => none
def trOper (P:Program) (ops:Array Oper) (o:Oper):Option AOper :=
 match o.guard with
 | none => some ⟨o.dst,(trOp P o.op).getD bad,none⟩
 | some (j,want) => match (ops[j]?).bind (·.dst) with
  | some t => some ⟨o.dst,(trOp P o.op).getD bad,some (t,want)⟩
  | none => none
def trOpers (P:Program) (ops:Array Oper):List Oper -> Option (List AOper)
 | [] => some []
 | o :: r => match trOper P ops o,trOpers P ops r with | some a,some l => some (a :: l) | _,_ => none
def AOp.reads:AOp -> Bool
 | .load .. | .toStr _ | .lookup .. | .len .. => true
 | .alloc _ | .box _ | .bslice .. | .mkslice .. | .mkmap | .toBytes _ => true
 | _ => false
def AOpd.temps:AOpd -> List Nat
 | .tmp t => [t]
 | .lit _ => []
def tempsL:List AOpd -> List Nat
 | [] => []
 | x :: r => x.temps ++ tempsL r
def tempsO:Option AOpd -> List Nat
 | none => []
 | some x => x.temps
def tempsP:List (Nat × AOpd) -> List Nat
 | [] => []
 | (_,x) :: r => x.temps ++ tempsP r
def tempsF:List (Nat × Nat × AOpd) -> List Nat
 | [] => []
 | (_,_,x) :: r => x.temps ++ tempsF r
def AOp.temps:AOp -> List Nat
 | .mov x | .box x | .load _ x | .nilck x | .un _ x | .toInt _ x | .toStr x | .toBytes x | .iface _ x | .faddr _ x | .field _ _ x | .extr _ x | .len _ x => x.temps
 | .bin _ _ x y | .store _ x y | .mkslice _ _ _ x y | .iaddr _ _ x y | .index _ _ _ x y | .indexS x y | .lookup _ _ _ x y | .append _ _ _ x y | .copy _ x y => x.temps ++ y.temps
 | .pick c x y => c.temps ++ (x.temps ++ y.temps)
 | .mupd _ m k v => m.temps ++ (k.temps ++ v.temps)
 | .alloc _ | .mkmap | .lenA _ => []
 | .build _ ps => tempsF ps
 | .bslice _ _ _ ps => tempsP ps
 | .mkfn _ fs cs => tempsL fs ++ tempsL cs
 | .slice _ x lo hi up | .sliceA _ _ x lo hi up => x.temps ++ (tempsO lo ++ (tempsO hi ++ tempsO up))
 | .substr x lo hi => x.temps ++ (tempsO lo ++ tempsO hi)
 | .call f args => f.temps ++ tempsL args
 | .mx xs | .mn xs => tempsL xs
def AOper.temps (o:AOper):List Nat:=match o.guard with | some (t,_) => t :: o.op.temps | none => o.op.temps
def readyB (ops:Array Oper) (listed:Nat) (j:Nat):Bool :=
 match ops[j]? with
 | some o => o.after.all fun e => !Region.binds .any e || listed.testBit e.on
 | none => false
def isE (l:List AOper) (j:Nat):Bool:=match l[j]? with | some o => (match o.op.cls with | .e => true | _ => false) | none => false
def bitB (b:Array Nat) (i j:Nat):Bool:=(b.getD j 0).testBit i
def pickNext (ops:Array Oper) (l:List AOper) (listed:Nat):Option Nat :=
 match (List.range ops.size).find? fun j => !listed.testBit j && !isE l j && readyB ops listed j with
 | some j => some j
 | none => (List.range ops.size).find? fun j => !listed.testBit j && isE l j && readyB ops listed j
def orderB (ops:Array Oper) (l:List AOper):Nat -> Nat -> Option (List Nat)
 | 0,_ => some []
 | k + 1,listed => match pickNext ops l listed with
  | some j => (match orderB ops l k (listed ||| 2 ^ j) with | some r => some (j :: r) | none => none)
  | none => none
def stays (l:List AOper) (b:Array Nat) (j:Nat):List Nat -> Nat
 | [] => 0
 | k :: r => bif isE l k then (bif bitB b j k then 0 else stays l b j r + 1) else stays l b j r
def closedOk (ops:Array Oper) (b:Array Nat):Bool :=
 (List.range ops.size).all fun i => match ops[i]? with
  | some o => (fun u:Nat => Nat.beq (b.getD i 0 ||| u) u) (o.after.foldl (fun u e => bif Region.binds .any e then u ||| (2 ^ e.on ||| b.getD e.on 0) else u) 0)
  | none => true
def seqOk (ops:Array Oper):Nat -> List Nat -> Bool
 | _, [] => true
 | s,j :: r => !s.testBit j && readyB ops s j && seqOk ops (s ||| 2 ^ j) r
def optEq:Option Nat -> Option Nat -> Bool
 | some a,some b => Nat.beq a b
 | _,_ => false
def looks (d:Option Nat) (ts:List Nat):Bool:=match d with | some d => ts.any (Nat.beq d) | none => false
def confl (x y:AOper):Bool:=looks x.dst y.temps || looks y.dst x.temps || optEq x.dst y.dst
def conflAt (l:List AOper) (i j:Nat):Bool:=match l[i]?,l[j]? with | some x,some y => confl x y | _,_ => true
def pairOk (l:List AOper) (b:Array Nat):List Nat -> Bool
 | [] => true
 | i :: r => (r.all fun j => bif isE l i || conflAt l i j then bitB b i j else true) && pairOk l b r
def orderOk (ops:Array Oper) (l:List AOper) (b:Array Nat) (c:List Nat):Bool :=
 closedOk ops b && seqOk ops 0 c && (List.range ops.size).all (fun i => c.any (Nat.beq i)) && pairOk l b c
def trSeq (l:List AOper) (b:Array Nat):List Nat -> Option (List (AOper × Nat))
 | [] => some []
 | j :: r => match l[j]?,trSeq l b r with
  | some o,some t => some ((o,bif isE l j || !o.op.reads then 0 else stays l b j r) :: t)
  | _,_ => none
def trDraw (P:Program) (ops:Array Oper):Option (List (AOper × Nat)) :=
 match trOpers P ops ops.toList with
 | none => none
 | some l =>
  match orderB ops l ops.size 0 with
  | none => none
  | some c => if orderOk ops l (Region.before ops) c = true then trSeq l (Region.before ops) c else none
def tr (P:Program):Code -> Option ACode
 | .skip => some .skip
 | .region _ ops false => (match trOpers P ops ops.toList with | some l => some (.ops l) | none => none)
 | .region _ ops true => (match trDraw P ops with | some l => some (.draw l) | none => none)
 | .seq a b => (match tr P a,tr P b with | some a,some b => some (.seq a b) | _,_ => none)
 | .cond c a b => (match trOpd c,tr P a,tr P b with | some c,some a,some b => some (.cond c a b) | _,_,_ => none)
 | .block id b => (match tr P b with | some b => some (.block id b) | none => none)
 | .loop b => (match tr P b with | some b => some (.loop b) | none => none)
 | .rangeFunc f ps a b => (match trOpd f,tr P a,tr P b with | some f,some a,some b => some (.rangeFunc f ps.toList a b) | _,_,_ => none)
 | .exit id => some (.exit id)
 | .scope b => (match tr P b with | some b => some (.scope b) | none => none)
 | .label _ => some .skip
 | .goto _ => none
 | .ret => some .ret
 | .refuse _ => none
def trRes (P:Program):List ResultVar -> Option (List ARes)
 | [] => some []
 | .tmp t :: r => (match trRes P r with | some l => some (.tmp t :: l) | none => none)
 | .cell a t :: r => (match layT P t,trRes P r with | some n,some l => some (.cell a n :: l) | _,_ => none)
def trFn (P:Program) (f:Func):Option AFn :=
 match f.body with
 | some c => (match tr P c,trRes P f.results.toList with | some b,some rs => some ⟨f.ntmps,rs,b⟩ | _,_ => none)
 | none => none
end
end Go.AM
namespace Go.AM
open Go
structure Place where
 blk:Nat
 base:Nat
 room:Nat
abbrev Rho:=Nat -> Option Place
mutual
inductive VR (ρ:Rho):AV -> Value -> Prop
 | int (k:IntKind) (n:Int):VR ρ (.int k n) (.int k n)
 | bool (b:Bool):VR ρ (.bool b) (.bool b)
 | str {l:List Nat} {s:ByteArray} (h:s.data.toList.map (·.toNat) = l):VR ρ (.str l) (.string s)
 | nilp:VR ρ .nilp (.pointer none)
 | ptr {i off:Nat} {p:Place} (h:ρ i = some p):VR ρ (.ptr i off) (.pointer (some ⟨p.blk,p.base + off,none⟩))
 | nils:VR ρ .nils (.slice none 0 0)
 | slx {i off n c:Nat} {p:Place} (h:ρ i = some p) (hc:n <= c):VR ρ (.slice i off n (.exact c)) (.slice (some ⟨p.blk,p.base + off,none⟩) n c)
 | slo {i off n sz c:Nat} {p:Place} (h:ρ i = some p) (hc:n <= c) (hr:off + c * sz = p.room):VR ρ (.slice i off n (.opn sz)) (.slice (some ⟨p.blk,p.base + off,none⟩) n c)
 | sle {i off sz:Nat} {p:Place} (a:Addr) (h:ρ i = some p) (hr:off = p.room):VR ρ (.slice i off 0 (.opn sz)) (.slice (some a) 0 0)
 | nilm:VR ρ .nilm (.map none)
 | map {i:Nat} {p:Place} (h:ρ i = some p):VR ρ (.map i) (.map (some p.blk))
 | nilf:VR ρ .nilf .nilFunc
 | fn {f:Fn} {a b:List AV} {a' b':Array Value} (hf:∀ l,f ≠ .yield l) (ha:VRs ρ a a'.toList) (hb:VRs ρ b b'.toList):VR ρ (.fn f a b) (.func f a' b')
 | yld {l:Nat} {p:Place} (h:ρ l = some p):VR ρ (.fn (.yield l) [] []) (.func (.yield p.blk) #[] #[])
 | nili:VR ρ .nili .nilIface
 | iface {t:Nat} {a:AV} {v:Value} (h:VR ρ a v):VR ρ (.iface t a) (.iface t v)
 | agg {cs:List AV} {vs:Array Value} (h:VRs ρ cs vs.toList):VR ρ (.agg cs) (.agg vs)
 | tup {cs:List AV} {vs:Array Value} (h:VRs ρ cs vs.toList):VR ρ (.tup cs) (.tuple vs)
inductive VRs (ρ:Rho):List AV -> List Value -> Prop
 | nil:VRs ρ [] []
 | cons {a:AV} {v:Value} {as0:List AV} {vs:List Value} (h:VR ρ a v) (hs:VRs ρ as0 vs):VRs ρ (a :: as0) (v :: vs)
end
def Ext (ρ ρ':Rho):Prop:=∀ i p, ρ i = some p -> ρ' i = some p
theorem Ext.refl (ρ:Rho):Ext ρ ρ:=fun _ _ h => h
theorem Ext.trans {a b c:Rho} (h:Ext a b) (k:Ext b c):Ext a c:=fun i p hi => k i p (h i p hi)
mutual
theorem VR.mono {ρ ρ':Rho} (hx:Ext ρ ρ'):∀ {a:AV} {v:Value},VR ρ a v -> VR ρ' a v
 | _,_, .int k n => .int k n
 | _,_, .bool b => .bool b
 | _,_, .str h => .str h
 | _,_, .nilp => .nilp
 | _,_, .ptr h => .ptr (hx _ _ h)
 | _,_, .nils => .nils
 | _,_, .slx h hc => .slx (hx _ _ h) hc
 | _,_, .slo h hc hr => .slo (hx _ _ h) hc hr
 | _,_, .sle a h hr => .sle a (hx _ _ h) hr
 | _,_, .nilm => .nilm
 | _,_, .map h => .map (hx _ _ h)
 | _,_, .nilf => .nilf
 | _,_, .fn hf ha hb => .fn hf (VRs.mono hx ha) (VRs.mono hx hb)
 | _,_, .yld h => .yld (hx _ _ h)
 | _,_, .nili => .nili
 | _,_, .iface h => .iface (VR.mono hx h)
 | _,_, .agg h => .agg (VRs.mono hx h)
 | _,_, .tup h => .tup (VRs.mono hx h)
theorem VRs.mono {ρ ρ':Rho} (hx:Ext ρ ρ'):∀ {a:List AV} {v:List Value},VRs ρ a v -> VRs ρ' a v
 | _,_, .nil => .nil
 | _,_, .cons h hs => .cons (VR.mono hx h) (VRs.mono hx hs)
end
theorem VRs.length {ρ:Rho} {a:List AV} {v:List Value} (h:VRs ρ a v):a.length = v.length:=by
 induction a generalizing v with
 | nil => cases h; rfl
 | cons x xs ih => cases h with | cons h hs => simp [ih hs]
theorem VRs.get {ρ:Rho} {a:List AV} {v:List Value} (h:VRs ρ a v) {k:Nat} {x:AV} (hk:a[k]? = some x):∃ y,v[k]? = some y /\ VR ρ x y:=by
 induction a generalizing v k with
 | nil => simp at hk
 | cons x xs ih =>
  cases h with
  | cons h hs =>
   cases k with
   | zero => simp at hk; subst hk; exact ⟨_,rfl,h⟩
   | succ k => simp at hk; simpa using ih hs hk
theorem VRs.append {ρ:Rho} {a b:List AV} {v u:List Value} (h:VRs ρ a v) (h':VRs ρ b u):VRs ρ (a ++ b) (v ++ u):=by
 induction a generalizing v with
 | nil => cases h; exact h'
 | cons x xs ih => cases h with | cons h hs => exact .cons h (ih hs)
theorem VRs.of_get {ρ:Rho} {a:List AV} {v:List Value} (hl:a.length = v.length) (h:∀ (k:Nat) (x:AV) (y:Value),a[k]? = some x -> v[k]? = some y -> VR ρ x y):VRs ρ a v:=by
 induction a generalizing v with
 | nil => cases v with | nil => exact .nil | cons _ _ => simp at hl
 | cons x xs ih =>
  cases v with
  | nil => simp at hl
  | cons y ys =>
   exact .cons (h 0 x y rfl rfl) (ih (by simpa using hl) fun k a b ha hb => h (k + 1) a b (by simpa using ha) (by simpa using hb))
theorem VRs.replicate {ρ:Rho} (n:Nat) {a:AV} {v:Value} (h:VR ρ a v):VRs ρ (List.replicate n a) (List.replicate n v):=by
 induction n with
 | zero => exact .nil
 | succ n ih => exact .cons h ih
theorem VR.undef {ρ:Rho}:VR ρ aundef undef := .tup .nil
theorem VR.oneCell {ρ:Rho} {a:AV} {v:Value} (h:VR ρ a v) (hs:a.scalar = true):v.oneCell' = true:=by
 cases h <;> simp_all [AV.scalar,Value.oneCell']
theorem VR.cells {ρ:Rho} {a:AV} {v:Value} (h:VR ρ a v):VRs ρ a.cells v.cells.toList:=by
 cases h with
 | agg h => exact h
 | _ => (refine .cons ?_ .nil); constructor <;> assumption
def TR (ρ:Rho) (tm:List AV) (t:Array Value):Prop:=VRs ρ tm t.toList
theorem TR.mono {ρ ρ':Rho} (hx:Ext ρ ρ') {tm:List AV} {t:Array Value} (h:TR ρ tm t):TR ρ' tm t:=VRs.mono hx h
theorem nth_eq (l:List AV) (n:Nat):nth l n = l.getD n aundef:=by
 induction l generalizing n with
 | nil => rfl
 | cons x xs ih => cases n with
  | zero => rfl
  | succ n => rw [nth_succ,ih]; simp
theorem put_eq (l:List AV) (n:Nat) (v:AV):put l n v = l.set n v:=by
 induction l generalizing n with
 | nil => rfl
 | cons x xs ih => cases n with
  | zero => rfl
  | succ n => rw [put_succ,ih]; simp
theorem TR.nth {ρ:Rho} {tm:List AV} {t:Array Value} (h:TR ρ tm t) (n:Nat):VR ρ (nth tm n) (t.getD n undef):=by
 rw [nth_eq]
 have hl:=VRs.length h
 cases ha:tm[n]? with
 | none =>
  have:t[n]? = none:=by simp at ha ⊢; rw [<- Array.length_toList, <- hl]; exact ha
  have e:t.getD n undef = undef:=by simp [Array.getD_eq_getD_getElem?,this]
  rw [e]; simp [List.getD,ha]; exact VR.undef
 | some x =>
  obtain ⟨y,hy,hv⟩:=VRs.get h ha
  have:t[n]? = some y:=by simpa using hy
  simpa [List.getD,ha,Array.getD_eq_getD_getElem?,this] using hv
theorem TR.put {ρ:Rho} {tm:List AV} {t:Array Value} (h:TR ρ tm t) (n:Nat) {a:AV} {v:Value} (hv:VR ρ a v):TR ρ (put tm n a) (t.setIfInBounds n v):=by
 rw [put_eq]
 unfold TR
 rw [Array.toList_setIfInBounds]
 have hl:=VRs.length h
 refine VRs.of_get (by simp [hl]) fun k x y hx hy => ?_
 by_cases e:n = k
 ·subst e
  have hx':n < tm.length:=by have:=(List.getElem?_eq_some_iff.1 hx).1; simpa using this
  rw [List.getElem?_set_self hx'] at hx
  rw [List.getElem?_set_self (by rw [<- hl]; exact hx')] at hy
  cases hx; cases hy; exact hv
 ·rw [List.getElem?_set_ne e] at hx hy
  obtain ⟨y',hy',hv'⟩:=VRs.get h hx
  rw [hy] at hy'; cases hy'; exact hv'
def stateR:Nat -> LoopState -> Prop
 | 0, .ready => True
 | 1, .busy => True
 | 2, .done => True
 | 3, .exhausted => True
 | _,_ => False
def pendR:Option AJump -> Option Code -> Prop
 | none,none => True
 | some .ret,some .ret => True
 | some (.exit i),some (.exit j) => i = j
 | _,_ => False
inductive EsR (ρ:Rho):List (AV × AV) -> List MapEntry -> Prop
 | nil:EsR ρ [] []
 | cons {k v:AV} {e:MapEntry} {es:List (AV × AV)} {ms:List MapEntry} (hk:VR ρ k e.key) (hv:VR ρ v e.val) (hs:EsR ρ es ms):EsR ρ ((k,v) :: es) (e :: ms)
theorem EsR.mono {ρ ρ':Rho} (hx:Ext ρ ρ') {es:List (AV × AV)} {ms:List MapEntry} (h:EsR ρ es ms):EsR ρ' es ms:=by
 induction h with
 | nil => exact .nil
 | cons hk hv _ ih => exact .cons (hk.mono hx) (hv.mono hx) ih
def Born (ms:List MapEntry) (ck:Nat):Prop:=(∀ x ∈ ms,x.born < ck) /\ (ms.map (·.born)).Nodup
theorem Born.nil (ck:Nat):Born [] ck:=⟨fun _ hx => (List.not_mem_nil hx).elim,List.nodup_nil⟩
theorem Born.push {ms:List MapEntry} {ck:Nat} (h:Born ms ck) {e:MapEntry} (he:e.born = ck):Born (ms ++ [e]) (ck + 1):=by
 refine ⟨fun x hx => ?_,?_⟩
 ·rcases List.mem_append.1 hx with hx | hx
  ·have:=h.1 x hx; omega
  ·rw [List.mem_singleton.1 hx]; omega
 ·rw [List.map_append,List.nodup_append]
  refine ⟨h.2,List.nodup_cons.2 ⟨List.not_mem_nil,List.nodup_nil⟩,fun a ha b hb => ?_⟩
  obtain ⟨x,hx,rfl⟩:=List.mem_map.1 ha
  obtain ⟨y,hy,rfl⟩:=List.mem_map.1 hb
  have h1:=h.1 x hx
  rw [List.mem_singleton.1 hy,he]; omega
theorem Born.modify {ms:List MapEntry} {ck j:Nat} (h:Born ms ck) {f:MapEntry -> MapEntry} (hf:∀ e,(f e).born = e.born):Born (ms.modify j f) ck:=by
 have key:(ms.modify j f).map (·.born) = ms.map (·.born):=by
  refine List.ext_getElem? fun k => ?_
  rw [List.getElem?_map,List.getElem?_map,List.getElem?_modify]
  cases ms[k]? with
  | none => rfl
  | some x => by_cases e:j = k <;> simp [e,hf]
 refine ⟨fun x hx => ?_,by rw [key]; exact h.2⟩
 have:x.born ∈ (ms.modify j f).map (·.born):=List.mem_map.2 ⟨x,hx,rfl⟩
 rw [key] at this
 obtain ⟨y,hy,e⟩:=List.mem_map.1 this
 rw [<- e]; exact h.1 y hy
def ObjR (P:Program) (ρ:Rho) (B:Nat) (w:World) (o:AObj) (p:Place):Prop :=
 match o with
 | .cells c rw => ∃ cc el fr, w.heap[p.blk]? = some (.cells cc el fr) /\ p.base + p.room <= cc.size /\ c.length <= p.room /\
   (∀ k a,c[k]? = some a -> ∃ v,cc[p.base + k]? = some v /\ VR ρ a v) /\
   (rw = true -> B <= p.blk /\ ∀ k,p.base <= k -> k < p.base + p.room -> ¬ (fr.1 <= k /\ k < fr.2))
 | .map es => p.base = 0 /\ p.room = 1 /\ B <= p.blk /\ ∃ ms ck,w.heap[p.blk]? = some (.map ms ck) /\ EsR ρ es ms.toList /\ Born ms.toList ck
 | .loop _ tm ps a b st pend => p.base = 0 /\ p.room = 1 /\ B <= p.blk /\ ∃ L, w.heap[p.blk]? = some (.loop L) /\ VRs ρ tm L.tmps.toList /\ L.params.toList = ps /\
   tr P L.assign = some a /\ tr P L.body = some b /\ stateR st L.state /\ pendR pend L.pending
theorem ObjR.mono {P:Program} {ρ ρ':Rho} (hx:Ext ρ ρ') {B:Nat} {w:World} {o:AObj} {p:Place} (h:ObjR P ρ B w o p):ObjR P ρ' B w o p:=by
 cases o with
 | cells c rw =>
  obtain ⟨cc,el,fr,h1,h2,h3,h4,h5⟩:=h
  exact ⟨cc,el,fr,h1,h2,h3,fun k a hk => let ⟨v,hv,hr⟩:=h4 k a hk; ⟨v,hv,hr.mono hx⟩,h5⟩
 | map es =>
  obtain ⟨h1,h2,h3,ms,ck,h4,h5,h6⟩:=h
  exact ⟨h1,h2,h3,ms,ck,h4,h5.mono hx,h6⟩
 | loop fn tm ps a b st pend =>
  obtain ⟨h1,h2,h3,L,h4,h5,h6⟩:=h
  exact ⟨h1,h2,h3,L,h4,h5.mono hx,h6⟩
theorem ObjR.same {P:Program} {ρ:Rho} {B:Nat} {w w':World} {o:AObj} {p:Place} (hb:w'.heap[p.blk]? = w.heap[p.blk]?) (h:ObjR P ρ B w o p):ObjR P ρ B w' o p:=by
 cases o <;> simp only [ObjR,hb] at h ⊢ <;> exact h
theorem ObjR.lt {P:Program} {ρ:Rho} {B:Nat} {w:World} {o:AObj} {p:Place} (h:ObjR P ρ B w o p):p.blk < w.heap.size:=by
 cases o with
 | cells c rw => obtain ⟨cc,el,fr,h1,_⟩:=h; exact (Array.getElem?_eq_some_iff.1 h1).1
 | map es => obtain ⟨_,_,_,ms,ck,h1,_⟩:=h; exact (Array.getElem?_eq_some_iff.1 h1).1
 | loop fn tm ps a b st pend => obtain ⟨_,_,_,L,h1,_⟩:=h; exact (Array.getElem?_eq_some_iff.1 h1).1
theorem ObjR.base {P:Program} {ρ:Rho} {B:Nat} {w:World} {o:AObj} {p:Place} (h:ObjR P ρ B w o p) (hw:o.rw = true):B <= p.blk:=by
 cases o with
 | cells c rw => obtain ⟨cc,el,fr,_,_,_,_,h5⟩:=h; exact (h5 hw).1
 | map es => exact h.2.2.1
 | loop fn tm ps a b st pend => exact h.2.2.1
def Apart (p q:Place):Prop:=p.blk ≠ q.blk \/ p.base + p.room <= q.base \/ q.base + q.room <= p.base
section
variable {h h':AHeap}
def Tidy (h:AHeap):Prop:=∀ i,h.next <= i -> h.get i = none
theorem Tidy.empty:Tidy .empty:=fun _ _ => rfl
theorem Tidy.push (ht:Tidy h) (o:AObj):Tidy (h.push o):=fun i hi => by
 simp at hi
 rw [AHeap.get_push_ne _ _ (by omega)]; exact ht i (by omega)
theorem Tidy.set (ht:Tidy h) {i:Nat} {o o':AObj} (hi:h.get i = some o):Tidy (h.set i o'):=fun j hj => by
 simp at hj
 rw [AHeap.get_set_ne _ _ (fun e => by have:=ht j hj; rw [e,hi] at this; cases this)]; exact ht j hj
theorem Tidy.del (ht:Tidy h) (i:Nat):Tidy (h.del i):=fun j hj => by
 simp at hj
 rw [AHeap.get_del]; split
 ·rfl
 ·exact ht j hj
end
structure Sim (P:Program) (ρ:Rho) (h:AHeap) (B:Nat) (w:World):Prop where
 low:B <= w.heap.size
 dom:∀ i p, ρ i = some p -> i < h.next
 obj:∀ i o p,h.get i = some o -> ρ i = some p -> ObjR P ρ B w o p
 sep:∀ i j oi oj pi pj,i ≠ j -> h.get i = some oi -> h.get j = some oj -> ρ i = some pi -> ρ j = some pj -> oi.rw = true -> Apart pi pj
 tidy:Tidy h
def Off (ρ:Rho) (h:AHeap) (b:Nat):Prop:=∀ i o p,h.get i = some o -> ρ i = some p -> o.rw = true -> p.blk ≠ b
structure Stp (P:Program) (B:Nat) (ρ:Rho) (h:AHeap) (w:World) (ρ':Rho) (h':AHeap) (w':World):Prop where
 ext:Ext ρ ρ'
 sim:Sim P ρ' h' B w'
 os:w'.os = w.os
 tape:w'.tape = w.tape
 output:w'.output = w.output
 size:w.heap.size <= w'.heap.size
 frame:∀ b,b < w.heap.size -> Off ρ h b -> w'.heap[b]? = w.heap[b]?
 orig:∀ i o p,h'.get i = some o -> ρ' i = some p -> o.rw = true -> w.heap.size <= p.blk \/ ∃ i0 o0 p0,h.get i0 = some o0 /\ ρ i0 = some p0 /\ o0.rw = true /\ p0.blk = p.blk
 next:h.next <= h'.next
 fresh:∀ i p, ρ' i = some p -> ρ i = some p \/ h.next <= i
 loops:∀ (b:Nat) L,w.heap[b]? = some (.loop L) -> ∃ L',w'.heap[b]? = some (.loop L')
 drawn:w.drawn <= w'.drawn
theorem Stp.refl {P:Program} {B:Nat} {ρ:Rho} {h:AHeap} {w:World} (hs:Sim P ρ h B w):Stp P B ρ h w ρ h w :=
 ⟨Ext.refl _,hs,rfl,rfl,rfl,Nat.le_refl _,fun _ _ _ => rfl,fun i o p h1 h2 h3 => .inr ⟨i,o,p,h1,h2,h3,rfl⟩,Nat.le_refl _,fun _ _ h => .inl h,fun _ L h => ⟨L,h⟩,Nat.le_refl _⟩
theorem Stp.trans {P:Program} {B:Nat} {ρ ρ1 ρ2:Rho} {h h1 h2:AHeap} {w w1 w2:World} (a:Stp P B ρ h w ρ1 h1 w1) (b:Stp P B ρ1 h1 w1 ρ2 h2 w2):Stp P B ρ h w ρ2 h2 w2 where
 ext:=a.ext.trans b.ext
 sim:=b.sim
 os:=b.os.trans a.os
 tape:=b.tape.trans a.tape
 output:=b.output.trans a.output
 size:=Nat.le_trans a.size b.size
 frame:=fun k hk ho => by
  rw [b.frame k (Nat.lt_of_lt_of_le hk a.size) ?_,a.frame k hk ho]
  intro i o p h1 h2 h3 e
  subst e
  rcases a.orig i o p h1 h2 h3 with hge | ⟨i0,o0,p0,g1,g2,g3,g4⟩
  ·omega
  ·exact ho i0 o0 p0 g1 g2 g3 g4
 orig:=fun i o p h1 h2 h3 => by
  rcases b.orig i o p h1 h2 h3 with hge | ⟨i0,o0,p0,g1,g2,g3,g4⟩
  ·exact .inl (Nat.le_trans a.size hge)
  ·rcases a.orig i0 o0 p0 g1 g2 g3 with hge | ⟨i1,o1,p1,k1,k2,k3,k4⟩
   ·exact .inl (g4 ▸ hge)
   ·exact .inr ⟨i1,o1,p1,k1,k2,k3,k4.trans g4⟩
 next:=Nat.le_trans a.next b.next
 fresh:=fun i p hi => by
  rcases b.fresh i p hi with h' | h'
  ·exact a.fresh i p h'
  ·exact .inr (Nat.le_trans a.next h')
 loops:=fun k L h => let ⟨L1,h1⟩:=a.loops k L h; b.loops k L1 h1
 drawn:=Nat.le_trans a.drawn b.drawn
theorem Stp.below {P:Program} {B:Nat} {ρ ρ':Rho} {h h':AHeap} {w w':World} (s:Stp P B ρ h w ρ' h' w') (hs:Sim P ρ h B w):RowKit.Below B w w' :=
 ⟨s.os,s.tape,s.output,s.size,fun k hk => s.frame k (Nat.lt_of_lt_of_le hk hs.low) fun i o p h1 h2 h3 e => by
  have:=(hs.obj i o p h1 h2).base h3; omega⟩
theorem Sim.drew {P:Program} {ρ:Rho} {h:AHeap} {B:Nat} {w:World} (hs:Sim P ρ h B w) (n:Nat):Sim P ρ h B { w with drawn:=n } :=
 ⟨hs.low,hs.dom,fun i o p h1 h2 => (hs.obj i o p h1 h2).same rfl,hs.sep,hs.tidy⟩
theorem Stp.drew {P:Program} {B:Nat} {ρ ρ':Rho} {h h':AHeap} {w w':World} (s:Stp P B ρ h w ρ' h' w') (n:Nat) (hn:w'.drawn <= n):Stp P B ρ h w ρ' h' { w' with drawn:=n } :=
 ⟨s.ext,s.sim.drew n,s.os,s.tape,s.output,s.size,s.frame,s.orig,s.next,s.fresh,s.loops,Nat.le_trans s.drawn hn⟩
theorem Stp.ofDrew {P:Program} {B:Nat} {ρ ρ':Rho} {h h':AHeap} {w w':World} {n:Nat} (s:Stp P B ρ h { w with drawn:=n } ρ' h' w') (hn:w.drawn <= n):Stp P B ρ h w ρ' h' w' :=
 ⟨s.ext,s.sim,s.os,s.tape,s.output,s.size,s.frame,s.orig,s.next,s.fresh,s.loops,Nat.le_trans hn s.drawn⟩
def upd (ρ:Rho) (i:Nat) (p:Place):Rho:=fun j => if j = i then some p else ρ j
theorem upd_self (ρ:Rho) (i:Nat) (p:Place):upd ρ i p i = some p:=by simp [upd]
theorem upd_ne (ρ:Rho) {i j:Nat} (p:Place) (h:j ≠ i):upd ρ i p j = ρ j:=by simp [upd,h]
theorem Ext.upd {ρ:Rho} {i:Nat} (p:Place) (h:ρ i = none):Ext ρ (upd ρ i p):=fun j q hj => by
 by_cases e:j = i
 ·subst e; rw [h] at hj; cases hj
 ·rw [upd_ne _ _ e]; exact hj
theorem Sim.push {P : Program} {ρ : Rho} {h : AHeap} {B : Nat} {w : World} (hs : Sim P ρ h B w) (o : AObj) (b : Obj) (p : Place) (hp : p.blk = w.heap.size)
  (ho:ObjR P (upd ρ h.next p) B (w.alloc b) o p):Stp P B ρ h w (upd ρ h.next p) (h.push o) (w.alloc b):=by
 have hnone:ρ h.next = none:=by
  cases e:ρ h.next with
  | none => rfl
  | some q => exact absurd (hs.dom _ _ e) (Nat.lt_irrefl _)
 have hx:Ext ρ (upd ρ h.next p):=Ext.upd p hnone
 have hold:∀ k,k < w.heap.size -> (w.alloc b).heap[k]? = w.heap[k]?:=fun k hk => RowKit.Below.heap_alloc w b k hk
 have hobj:∀ i o' q,(h.push o).get i = some o' -> upd ρ h.next p i = some q -> ObjR P (upd ρ h.next p) B (w.alloc b) o' q:=by
  intro i o' q h1 h2
  by_cases e:i = h.next
  ·subst e
   rw [AHeap.get_push_same] at h1; rw [upd_self] at h2
   cases h1; cases h2; exact ho
  ·rw [AHeap.get_push_ne _ _ e] at h1; rw [upd_ne _ _ e] at h2
   have:=hs.obj i o' q h1 h2
   exact (this.same (hold _ this.lt)).mono hx
 refine ⟨hx,⟨?_,?_,hobj,?_,hs.tidy.push _⟩,rfl,rfl,rfl,?_,fun k hk _ => hold k hk,?_,Nat.le_succ _,?_,fun k L h => ⟨L,by rw [hold k (Array.getElem?_eq_some_iff.1 h).1]; exact h⟩,Nat.le_refl _⟩
 ·have:=hs.low; simp; omega
 ·intro i q hi
  by_cases e:i = h.next
  ·subst e; simp
  ·rw [upd_ne _ _ e] at hi; have:=hs.dom _ _ hi; simp; omega
 ·intro i j oi oj pi pj hne h1 h2 h3 h4 h5
  by_cases ei:i = h.next
  ·have ej:j ≠ h.next:=fun e => hne (ei.trans e.symm)
   rw [AHeap.get_push_ne _ _ ej] at h2; rw [upd_ne _ _ ej] at h4
   rw [ei,upd_self] at h3; cases h3
   exact .inl (by have:=(hs.obj j oj pj h2 h4).lt; omega)
  ·by_cases ej:j = h.next
   ·rw [AHeap.get_push_ne _ _ ei] at h1; rw [upd_ne _ _ ei] at h3
    rw [ej,upd_self] at h4; cases h4
    exact .inl (by have:=(hs.obj i oi pi h1 h3).lt; omega)
   ·rw [AHeap.get_push_ne _ _ ei] at h1; rw [upd_ne _ _ ei] at h3
    rw [AHeap.get_push_ne _ _ ej] at h2; rw [upd_ne _ _ ej] at h4
    exact hs.sep i j oi oj pi pj hne h1 h2 h3 h4 h5
 ·simp
 ·intro i o' q h1 h2 h3
  by_cases e:i = h.next
  ·subst e; rw [upd_self] at h2; cases h2; exact .inl (by omega)
  ·rw [AHeap.get_push_ne _ _ e] at h1; rw [upd_ne _ _ e] at h2
   exact .inr ⟨i,o',q,h1,h2,h3,rfl⟩
 ·intro i q hi
  by_cases e:i = h.next
  ·subst e; exact .inr (Nat.le_refl _)
  ·rw [upd_ne _ _ e] at hi; exact .inl hi
end Go.AM
namespace Go.AM
open Go
theorem cut_spec {l r:List AV}:∀ {o n:Nat},cut l o n = some r -> r.length = n /\ o + n <= l.length /\ ∀ k,k < n -> r[k]? = l[o + k]?:=by
 induction l generalizing r with
 | nil =>
  intro o n h
  rw [cut_nil] at h
  by_cases hc:o = 0 /\ n = 0
  ·rw [if_pos hc] at h; cases h; obtain ⟨rfl,rfl⟩:=hc; simp
  ·rw [if_neg hc] at h; cases h
 | cons x xs ih =>
  intro o n h
  cases o with
  | zero =>
   cases n with
   | zero => rw [cut_zero] at h; cases h; simp
   | succ n =>
    rw [cut_cons] at h
    cases hc:cut xs 0 n with
    | none => rw [hc] at h; cases h
    | some r' =>
     rw [hc] at h; cases h
     obtain ⟨h1,h2,h3⟩:=ih hc
     refine ⟨by simp [h1],by simp at h2 ⊢; omega,fun k hk => ?_⟩
     cases k with
     | zero => simp
     | succ k => have:=h3 k (by omega); simpa using this
  | succ o =>
   rw [cut_succ] at h
   obtain ⟨h1,h2,h3⟩:=ih h
   exact ⟨h1,by simp; omega,fun k hk => by rw [h3 k hk,show o + 1 + k = (o + k) + 1 by omega]; simp⟩
theorem cut_some {l:List AV}:∀ {o n:Nat},o + n <= l.length -> cut l o n = some ((l.drop o).take n):=by
 induction l with
 | nil => intro o n h; simp at h; rw [cut_nil,if_pos h]; simp
 | cons x xs ih =>
  intro o n h
  cases o with
  | zero =>
   cases n with
   | zero => rw [cut_zero]; simp
   | succ n => rw [cut_cons,ih (by simp at h ⊢; omega)]; simp
  | succ o => rw [cut_succ,ih (by simp at h; omega)]; simp
theorem cut_eq {l r:List AV} {o n:Nat} (h:cut l o n = some r):o + n <= l.length /\ r = (l.drop o).take n:=by
 have h2:=(cut_spec h).2.1
 rw [cut_some h2] at h
 exact ⟨h2,(Option.some.inj h).symm⟩
theorem lay_spec {l l' : List AV} : ∀ {o : Nat} {vs : List AV}, lay l o vs = some l' -> l'.length = l.length /\ o + vs.length <= l.length /\
  ∀ k:Nat,l'[k]? = if o <= k /\ k < o + vs.length then vs[k - o]? else l[k]?:=by
 induction l generalizing l' with
 | nil =>
  intro o vs h
  rw [lay_nil] at h
  by_cases hc:o = 0 /\ vs = []
  ·rw [if_pos hc] at h; cases h; obtain ⟨rfl,rfl⟩:=hc; simp
  ·rw [if_neg hc] at h; cases h
 | cons x xs ih =>
  intro o vs h
  cases o with
  | zero =>
   cases vs with
   | nil => rw [lay_zero] at h; cases h; refine ⟨rfl,by simp,fun k => ?_⟩; rw [if_neg (by simp)]
   | cons v vs =>
    rw [lay_cons] at h
    cases hc:lay xs 0 vs with
    | none => rw [hc] at h; cases h
    | some r =>
     rw [hc] at h; cases h
     obtain ⟨h1,h2,h3⟩:=ih hc
     refine ⟨by simp [h1],by simp at h2 ⊢; omega,fun k => ?_⟩
     cases k with
     | zero => simp
     | succ k =>
      have:=h3 k
      simp only [Nat.zero_le,true_and,Nat.zero_add,Nat.sub_zero,List.getElem?_cons_succ,List.length_cons] at this ⊢
      rw [this]
      by_cases hk:k < vs.length
      ·rw [if_pos hk,if_pos (by omega)]
      ·rw [if_neg hk,if_neg (by omega)]
  | succ o =>
   rw [lay_succ] at h
   cases hc:lay xs o vs with
   | none => rw [hc] at h; cases h
   | some r =>
    rw [hc] at h; cases h
    obtain ⟨h1,h2,h3⟩:=ih hc
    refine ⟨by simp [h1],by simp; omega,fun k => ?_⟩
    cases k with
    | zero => simp
    | succ k =>
     have:=h3 k
     simp only [List.getElem?_cons_succ]
     rw [this]
     by_cases hk:o <= k /\ k < o + vs.length
     ·rw [if_pos hk,if_pos (by omega),show k + 1 - (o + 1) = k - o by omega]
     ·rw [if_neg hk,if_neg (by omega)]
theorem lay_some {l:List AV}:∀ {o:Nat} {vs:List AV},o + vs.length <= l.length -> ∃ l',lay l o vs = some l':=by
 induction l with
 | nil => intro o vs h; simp at h; refine ⟨[],?_⟩; rw [lay_nil,if_pos]; exact h
 | cons x xs ih =>
  intro o vs h
  cases o with
  | zero =>
   cases vs with
   | nil => exact ⟨_,lay_zero _⟩
   | cons v vs =>
    obtain ⟨r,hr⟩:=ih (o:=0) (vs:=vs) (by simp at h ⊢; omega)
    exact ⟨v :: r,by rw [lay_cons,hr]⟩
  | succ o =>
   obtain ⟨r,hr⟩:=ih (o:=o) (vs:=vs) (by simp at h; omega)
   exact ⟨x :: r,by rw [lay_succ,hr]⟩
theorem drops_eq (l:List AV) (n:Nat):drops l n = l.drop n:=by
 induction l generalizing n with
 | nil => cases n <;> simp [drops]
 | cons x xs ih => cases n <;> simp [drops,ih]
theorem Addr.add_plain (b o n:Nat):(⟨b,o,none⟩:Addr).add n = ⟨b,o + n,none⟩:=by
 unfold Addr.add; split
 ·rename_i h; subst h; rfl
 ·rfl
theorem cell_of_block {w:World} {b:Nat} {cc:Array Value} {el:TypeId} {fr:Nat × Nat} (h:w.heap[b]? = some (.cells cc el fr)) (k:Nat):w.cell? ⟨b,k,none⟩ = cc[k]?:=by
 simp [World.cell?,h]
theorem read_cut {P : Program} {ρ : Rho} {h : AHeap} {B : Nat} {w : World} (hs : Sim P ρ h B w) {i : Nat} {c r : List AV} {rw' : Bool} {p : Place} {o n : Nat}
  (hg:h.get i = some (.cells c rw')) (hp:ρ i = some p) (hc:cut c o n = some r) :
  ∃ vs:List Value,vs.length = n /\ VRs ρ r vs /\ (∀ (j:Nat) v,vs[j]? = some v -> w.cell? ⟨p.blk,p.base + o + j,none⟩ = some v):=by
 obtain ⟨cc,el,fr,h1,h2,h3,h4,h5⟩:=hs.obj i _ p hg hp
 obtain ⟨g1,g2,g3⟩:=cut_spec hc
 have hj:∀ j,j < n -> ∃ a v,r[j]? = some a /\ cc[p.base + o + j]? = some v /\ VR ρ a v:=by
  intro j hj
  have hlt:o + j < c.length:=by omega
  obtain ⟨v,hv,hr⟩:=h4 (o + j) _ (List.getElem?_eq_getElem hlt)
  exact ⟨_,v,(g3 j hj).trans (List.getElem?_eq_getElem hlt),by rw [Nat.add_assoc]; exact hv,hr⟩
 refine ⟨(List.range n).map fun j => cc.getD (p.base + o + j) undef,by simp,?_,?_⟩
 ·refine VRs.of_get (by simp [g1]) fun k x y hx hy => ?_
  have hk:k < n:=by rw [<- g1]; exact (List.getElem?_eq_some_iff.1 hx).1
  obtain ⟨a,v,e1,e2,e3⟩:=hj k hk
  rw [hx] at e1; cases e1
  simp [hk,Array.getD_eq_getD_getElem?,e2] at hy
  subst hy; exact e3
 ·intro j v hv
  have hk:j < n:=by have:=(List.getElem?_eq_some_iff.1 hv).1; simpa using this
  obtain ⟨a,u,e1,e2,e3⟩:=hj j hk
  simp [hk,Array.getD_eq_getD_getElem?,e2] at hv
  subst hv
  rw [cell_of_block h1,e2]
theorem run_loadCells_of {P : Program} {w : World} {b o : Nat} {vs : List Value} (h : ∀ (j : Nat) v, vs[j]? = some v -> w.cell? ⟨b, o + j, none⟩ = some v) :
  (loadCells ⟨b,o,none⟩ vs.length).run P w = .ok vs.toArray w :=
 run_loadCells_list w ⟨b,o,none⟩ vs fun j v hv => by rw [Addr.add_plain]; exact h j v hv
def over (cc:Array Value) (o:Nat):List Value -> Array Value
 | [] => cc
 | v :: vs => over (cc.setIfInBounds o v) (o + 1) vs
theorem over_size (cc:Array Value) (o:Nat) (vs:List Value):(over cc o vs).size = cc.size:=by
 induction vs generalizing cc o with
 | nil => rfl
 | cons v vs ih => simp [over,ih]
theorem over_get (vs:List Value):∀ (cc:Array Value) (o k:Nat),o + vs.length <= cc.size -> (over cc o vs)[k]? = if o <= k /\ k < o + vs.length then vs[k - o]? else cc[k]?:=by
 induction vs with
 | nil => intro cc o k _; simp only [over,List.length_nil]; rw [if_neg (by omega)]
 | cons v vs ih =>
  intro cc o k h
  simp only [List.length_cons] at h
  rw [over,ih _ _ _ (by simp; omega)]
  by_cases h1:o + 1 <= k /\ k < o + 1 + vs.length
  ·rw [if_pos h1,if_pos (by simp; omega),show k - o = (k - (o + 1)) + 1 by omega]; simp
  ·rw [if_neg h1]
   by_cases h2:k = o
   ·subst h2
    rw [if_pos (by simp),Array.getElem?_setIfInBounds_self]; simp; omega
   ·rw [if_neg (by simp; omega),Array.getElem?_setIfInBounds_ne (Ne.symm h2)]
def putRowW (w:World) (b:Nat) (o:Obj):World:={ w with heap:=w.heap.setIfInBounds b o }
theorem putRowW_self {w:World} {b:Nat} {o:Obj} (h:w.heap[b]? = some o):putRowW w b o = w:=by
 unfold putRowW
 have:w.heap.setIfInBounds b o = w.heap:=by
  apply Array.ext (by simp)
  intro k h1 h2
  have h3:=(Array.getElem?_eq_some_iff.1 h).2
  rw [Array.getElem_setIfInBounds]
  split
  ·rename_i e; subst e; exact h3.symm
  ·rfl
 rw [this]
theorem putRowW_twice {w:World} {b:Nat} {o o':Obj}:putRowW (putRowW w b o) b o' = putRowW w b o':=by
 simp [putRowW]
theorem run_storeCells_over {P : Program} {b : Nat} {el : TypeId} {fr : Nat × Nat} (o : Nat) : ∀ (vs : List Value) (i : Nat) (cc : Array Value) (w : World),
  w.heap[b]? = some (.cells cc el fr) -> o + i + vs.length <= cc.size -> (∀ v ∈ vs,v.oneCell' = true) -> (∀ k,o + i <= k -> k < o + i + vs.length -> ¬ (fr.1 <= k /\ k < fr.2)) ->
  (storeCells ⟨b,o,none⟩ vs i).run P w = .ok () (putRowW w b (.cells (over cc (o + i) vs) el fr)):=by
 intro vs
 induction vs with
 | nil =>
  intro i cc w hb _ _ _
  simp only [storeCells,Sem.run_pure,over]
  rw [putRowW_self hb]
 | cons v vs ih =>
  intro i cc w hb hsz hone hfr
  simp only [List.length_cons] at hsz hfr
  have hlt:=(Array.getElem?_eq_some_iff.1 hb).1
  have hcell:w.cell? ((⟨b,o,none⟩:Addr).add i) = some cc[o + i]:=by rw [Addr.add_plain,cell_of_block hb]; exact Array.getElem?_eq_getElem (by omega)
  have hfz:w.frozen? ((⟨b,o,none⟩:Addr).add i) = false:=by
   rw [Addr.add_plain]
   have:=hfr (o + i) (Nat.le_refl _) (by omega)
   simp only [World.frozen?,hb]
   simp only [Bool.and_eq_false_iff,decide_eq_false_iff_not]
   by_cases h1:fr.1 <= o + i
   ·exact .inr fun h2 => this ⟨h1,h2⟩
   ·exact .inl h1
  have hset:w.setCell ((⟨b,o,none⟩:Addr).add i) v = putRowW w b (.cells (cc.setIfInBounds (o + i) v) el fr):=by
   rw [Addr.add_plain]
   simp only [World.setCell,putRowW]
   congr 1
   apply Array.ext (by simp)
   intro k h1 h2
   have hbe:=(Array.getElem?_eq_some_iff.1 hb).2
   simp only [Array.getElem_modify]
   by_cases e:b = k
   ·subst e; simp [hbe]
   ·rw [if_neg e,Array.getElem_setIfInBounds_ne (by simpa using h2) e]
  have hb':(putRowW w b (.cells (cc.setIfInBounds (o + i) v) el fr)).heap[b]? = some (.cells (cc.setIfInBounds (o + i) v) el fr):=by
   simp [putRowW,hlt]
  rw [storeCells]
  simp only [Sem.run_bind,run_store P w _ v .plain (hone v (by simp)),hcell,hfz,Bool.false_eq_true,if_false,Result.andThen_ok]
  rw [hset,ih (i + 1) _ _ hb' (by simp; omega) (fun u hu => hone u (by simp [hu])) (fun k h1 h2 => hfr k (by omega) (by omega)),putRowW_twice]
  simp only [over]
  rfl
theorem run_storeCells_put {P : Program} {w : World} {b : Nat} {cc : Array Value} {el : TypeId} {fr : Nat × Nat} {o : Nat} {vs : List Value}
  (hb:w.heap[b]? = some (.cells cc el fr)) (hsz:o + vs.length <= cc.size) (hone:∀ v ∈ vs,v.oneCell' = true) (hfr:∀ k,o <= k -> k < o + vs.length -> ¬ (fr.1 <= k /\ k < fr.2)) :
  (storeCells ⟨b,o,none⟩ vs).run P w = .ok () (putRowW w b (.cells (over cc o vs) el fr)) :=
 run_storeCells_over o vs 0 cc w hb (by omega) hone hfr
theorem putRowW_same {w:World} {b:Nat} {o:Obj} (h:b < w.heap.size):(putRowW w b o).heap[b]? = some o:=by
 simp [putRowW,h]
theorem putRowW_other {w:World} {b k:Nat} {o:Obj} (h:k ≠ b):(putRowW w b o).heap[k]? = w.heap[k]?:=by
 simp only [putRowW]; exact Array.getElem?_setIfInBounds_ne (Ne.symm h)
@[simp] theorem putRowW_size {w:World} {b:Nat} {o:Obj}:(putRowW w b o).heap.size = w.heap.size:=by simp [putRowW]
theorem Sim.putCells {P : Program} {ρ : Rho} {h : AHeap} {B : Nat} {w : World} (hs : Sim P ρ h B w) {i : Nat} {c c' : List AV} {p : Place} {cc cc' : Array Value} {el : TypeId} {fr : Nat × Nat}
  (hg:h.get i = some (.cells c true)) (hp:ρ i = some p) (hb:w.heap[p.blk]? = some (.cells cc el fr)) (hsz:cc'.size = cc.size)
  (hout:∀ k, ¬ (p.base <= k /\ k < p.base + p.room) -> cc'[k]? = cc[k]?) (hlen:c'.length <= p.room) (hin:∀ (k:Nat) a,c'[k]? = some a -> ∃ v,cc'[p.base + k]? = some v /\ VR ρ a v) :
  Stp P B ρ h w ρ (h.set i (.cells c' true)) (putRowW w p.blk (.cells cc' el fr)):=by
 have hob:=hs.obj i _ p hg hp
 obtain ⟨cc0,el0,fr0,h1,h2,h3,h4,h5⟩:=hob
 rw [hb] at h1; cases h1
 have hlt:p.blk < w.heap.size:=(Array.getElem?_eq_some_iff.1 hb).1
 refine ⟨Ext.refl _,⟨by simpa using hs.low,hs.dom,?_,?_,hs.tidy.set hg⟩,rfl,rfl,rfl,by simp,?_,?_,Nat.le_refl _,fun _ _ h => .inl h,fun k L h => ⟨L,by rw [putRowW_other (fun e => by rw [e,hb] at h; cases h)]; exact h⟩,Nat.le_refl _⟩
 ·intro j o q hj hq
  by_cases e:j = i
  ·subst e
   rw [AHeap.get_set_same] at hj; cases hj
   rw [hp] at hq; cases hq
   exact ⟨cc',el,fr,putRowW_same hlt,by rw [hsz]; exact h2,hlen,hin,h5⟩
  ·rw [AHeap.get_set_ne _ _ e] at hj
   have hap:=hs.sep i j _ o p q (Ne.symm e) hg hj hp hq rfl
   have hoj:=hs.obj j o q hj hq
   by_cases eb:q.blk = p.blk
   ·rcases hap with hap | hap
    ·exact absurd eb.symm hap
    ·cases o with
     | cells c1 r1 =>
      obtain ⟨cc1,el1,fr1,k1,k2,k3,k4,k5⟩:=hoj
      rw [eb,hb] at k1; cases k1
      refine ⟨cc',el,fr,by rw [eb]; exact putRowW_same hlt,by rw [hsz]; exact k2,k3,fun k a hk => ?_,k5⟩
      obtain ⟨v,hv,hr⟩:=k4 k a hk
      have hkl:k < c1.length:=(List.getElem?_eq_some_iff.1 hk).1
      exact ⟨v,by rw [hout _ (by omega)]; exact hv,hr⟩
     | map es =>
      obtain ⟨_,_,_,ms,ck,k1,_⟩:=hoj
      rw [eb,hb] at k1; cases k1
     | loop fn tm ps a b st pend =>
      obtain ⟨_,_,_,L,k1,_⟩:=hoj
      rw [eb,hb] at k1; cases k1
   ·exact hoj.same (putRowW_other eb)
 ·intro j k oj ok pj pk hne hj hk h1 h2 h3
  have hj':∃ oj',h.get j = some oj' /\ oj'.rw = oj.rw:=by
   by_cases e:j = i
   ·subst e; rw [AHeap.get_set_same] at hj; cases hj; exact ⟨_,hg,rfl⟩
   ·rw [AHeap.get_set_ne _ _ e] at hj; exact ⟨_,hj,rfl⟩
  have hk':∃ ok',h.get k = some ok':=by
   by_cases e:k = i
   ·subst e; exact ⟨_,hg⟩
   ·rw [AHeap.get_set_ne _ _ e] at hk; exact ⟨_,hk⟩
  obtain ⟨oj',e1,e2⟩:=hj'
  obtain ⟨ok',e3⟩:=hk'
  exact hs.sep j k oj' ok' pj pk hne e1 e3 h1 h2 (by rw [e2]; exact h3)
 ·intro b _ ho
  exact putRowW_other fun e => ho i _ p hg hp rfl e.symm
 ·intro j o q hj hq hw
  by_cases e:j = i
  ·subst e; rw [hp] at hq; cases hq; exact .inr ⟨j,_,p,hg,hp,rfl,rfl⟩
  ·rw [AHeap.get_set_ne _ _ e] at hj; exact .inr ⟨j,o,q,hj,hq,hw,rfl⟩
theorem Sim.putObj {P : Program} {ρ : Rho} {h : AHeap} {B : Nat} {w : World} (hs : Sim P ρ h B w) {i : Nat} {o o' : AObj} {p : Place} {b : Obj}
  (hg:h.get i = some o) (hp:ρ i = some p) (hw:o.rw = true) (hroom:p.room = 1) (hbase:p.base = 0) (_hw':o'.rw = true)
  (hkind:∀ q,(∃ c r,h.get q = some (.cells c r)) -> ∀ pq, ρ q = some pq -> pq.blk ≠ p.blk)
  (hloop:(∃ L,w.heap[p.blk]? = some (.loop L)) -> ∃ L,b = .loop L)
  (ho:ObjR P ρ B (putRowW w p.blk b) o' p):Stp P B ρ h w ρ (h.set i o') (putRowW w p.blk b):=by
 have hlt:p.blk < w.heap.size:=(hs.obj i o p hg hp).lt
 refine ⟨Ext.refl _,⟨by simpa using hs.low,hs.dom,?_,?_,hs.tidy.set hg⟩,rfl,rfl,rfl,by simp,?_,?_,Nat.le_refl _,fun _ _ h => .inl h,?_,Nat.le_refl _⟩
 ·intro j oj q hj hq
  by_cases e:j = i
  ·subst e
   rw [AHeap.get_set_same] at hj; cases hj
   rw [hp] at hq; cases hq
   exact ho
  ·rw [AHeap.get_set_ne _ _ e] at hj
   have hap:=hs.sep i j _ oj p q (Ne.symm e) hg hj hp hq hw
   have hoj:=hs.obj j oj q hj hq
   have hne:q.blk ≠ p.blk:=by
    cases oj with
    | cells c r => exact hkind j ⟨c,r,hj⟩ q hq
    | map es =>
     rcases hap with h | h
     ·exact Ne.symm h
     ·have h1:=hoj.1; have h2:=hoj.2.1; omega
    | loop fn tm ps a b st pend =>
     rcases hap with h | h
     ·exact Ne.symm h
     ·have h1:=hoj.1; have h2:=hoj.2.1; omega
   exact hoj.same (putRowW_other hne)
 ·intro j k oj ok pj pk hne hj hk h1 h2 h3
  have hj':∃ oj',h.get j = some oj' /\ oj'.rw = true:=by
   by_cases e:j = i
   ·subst e; exact ⟨_,hg,hw⟩
   ·rw [AHeap.get_set_ne _ _ e] at hj; exact ⟨_,hj,h3⟩
  have hk':∃ ok',h.get k = some ok':=by
   by_cases e:k = i
   ·subst e; exact ⟨_,hg⟩
   ·rw [AHeap.get_set_ne _ _ e] at hk; exact ⟨_,hk⟩
  obtain ⟨oj',e1,e2⟩:=hj'
  obtain ⟨ok',e3⟩:=hk'
  exact hs.sep j k oj' ok' pj pk hne e1 e3 h1 h2 e2
 ·intro b _ hoff
  exact putRowW_other fun e => hoff i _ p hg hp hw e.symm
 ·intro j oj q hj hq hwj
  by_cases e:j = i
  ·subst e; rw [hp] at hq; cases hq; exact .inr ⟨j,_,p,hg,hp,hw,rfl⟩
  ·rw [AHeap.get_set_ne _ _ e] at hj; exact .inr ⟨j,oj,q,hj,hq,hwj,rfl⟩
 ·intro k L hk
  by_cases e:k = p.blk
  ·subst e
   obtain ⟨L',rfl⟩:=hloop ⟨L,hk⟩
   exact ⟨L',putRowW_same hlt⟩
  ·exact ⟨L,by rw [putRowW_other e]; exact hk⟩
theorem Sim.extend {P : Program} {ρ : Rho} {h : AHeap} {B : Nat} {w : World} (hs : Sim P ρ h B w) {i o : Nat} {c c' : List AV} {p : Place} {cc cc' : Array Value} {el : TypeId} {fr : Nat × Nat}
  (hg:h.get i = some (.cells c true)) (hp:ρ i = some p) (hb:w.heap[p.blk]? = some (.cells cc el fr)) (hsz:cc'.size = cc.size) (ho:o <= p.room)
  (hout:∀ k, ¬ (p.base <= k /\ k < p.base + p.room) -> cc'[k]? = cc[k]?) (hlen:c'.length <= p.room - o)
  (hin:∀ (k:Nat) a,c'[k]? = some a -> ∃ v,cc'[p.base + o + k]? = some v /\ VR ρ a v) :
  Stp P B ρ h w (upd ρ h.next ⟨p.blk,p.base + o,p.room - o⟩) ((h.del i).push (.cells c' true)) (putRowW w p.blk (.cells cc' el fr)):=by
 have hnone:ρ h.next = none:=by
  cases e:ρ h.next with
  | none => rfl
  | some q => exact absurd (hs.dom _ _ e) (Nat.lt_irrefl _)
 have hx:Ext ρ (upd ρ h.next ⟨p.blk,p.base + o,p.room - o⟩):=Ext.upd _ hnone
 have hob:=hs.obj i _ p hg hp
 obtain ⟨cc0,el0,fr0,h1,h2,h3,h4,h5⟩:=hob
 rw [hb] at h1; cases h1
 have hlt:p.blk < w.heap.size:=(Array.getElem?_eq_some_iff.1 hb).1
 have hin_:i < h.next:=hs.dom _ _ hp
 have hold:∀ j oj,((h.del i).push (.cells c' true)).get j = some oj -> j ≠ h.next -> j ≠ i /\ h.get j = some oj:=by
  intro j oj hj hne
  rw [AHeap.get_push_ne _ _ (by simpa using hne)] at hj
  by_cases e:j = i
  ·subst e; rw [AHeap.get_del_same] at hj; cases hj
  ·rw [AHeap.get_del_ne _ e] at hj; exact ⟨e,hj⟩
 have hnew:∀ oj,((h.del i).push (.cells c' true)).get h.next = some oj -> oj = .cells c' true:=by
  intro oj hj
  have:((h.del i).push (.cells c' true)).get (h.del i).next = some (.cells c' true):=AHeap.get_push_same _ _
  rw [AHeap.next_del] at this
  rw [this] at hj; cases hj; rfl
 refine ⟨hx,⟨by simpa using hs.low,?_,?_,?_,(hs.tidy.del i).push _⟩,rfl,rfl,rfl,by simp,?_,?_,by simp,?_,fun k L h => ⟨L,by rw [putRowW_other (fun e => by rw [e,hb] at h; cases h)]; exact h⟩,Nat.le_refl _⟩
 ·intro j q hj
  by_cases e:j = h.next
  ·subst e; simp
  ·rw [upd_ne _ _ e] at hj; have:=hs.dom _ _ hj; simp; omega
 ·intro j oj q hj hq
  by_cases e:j = h.next
  ·subst e
   rw [hnew _ hj]
   rw [upd_self] at hq; cases hq
   refine ⟨cc',el,fr,putRowW_same hlt,by simp only [hsz]; omega,hlen,fun k a hk => let ⟨v,hv,hr⟩:=hin k a hk; ⟨v,hv,hr.mono hx⟩,fun _ => ⟨(h5 rfl).1,fun k k1 k2 => (h5 rfl).2 k (by simp at k1; omega) (by simp at k2; omega)⟩⟩
  ·obtain ⟨e1,hj⟩:=hold j oj hj e
   rw [upd_ne _ _ e] at hq
   have hap:=hs.sep i j _ oj p q (Ne.symm e1) hg hj hp hq rfl
   have hoj:=hs.obj j oj q hj hq
   refine ObjR.mono hx ?_
   by_cases eb:q.blk = p.blk
   ·rcases hap with hap | hap
    ·exact absurd eb.symm hap
    ·cases oj with
     | cells c1 r1 =>
      obtain ⟨cc1,el1,fr1,k1,k2,k3,k4,k5⟩:=hoj
      rw [eb,hb] at k1; cases k1
      refine ⟨cc',el,fr,by rw [eb]; exact putRowW_same hlt,by rw [hsz]; exact k2,k3,fun k a hk => ?_,k5⟩
      obtain ⟨v,hv,hr⟩:=k4 k a hk
      have hkl:k < c1.length:=(List.getElem?_eq_some_iff.1 hk).1
      exact ⟨v,by rw [hout _ (by omega)]; exact hv,hr⟩
     | map es => obtain ⟨_,_,_,ms,ck,k1,_⟩:=hoj; rw [eb,hb] at k1; cases k1
     | loop fn tm ps a b st pend => obtain ⟨_,_,_,L,k1,_⟩:=hoj; rw [eb,hb] at k1; cases k1
   ·exact hoj.same (putRowW_other eb)
 ·intro j k oj ok pj pk hne hj hk h1 h2 hw
  by_cases ej:j = h.next
  ·have ek:k ≠ h.next:=fun e => hne (ej.trans e.symm)
   obtain ⟨e2,hk⟩:=hold k ok hk ek
   rw [upd_ne _ _ ek] at h2
   subst ej; rw [upd_self] at h1; cases h1
   have:=hs.sep i k _ ok p pk (Ne.symm e2) hg hk hp h2 rfl
   rcases this with h | h | h
   ·exact .inl h
   ·exact .inr (.inl (by show p.base + o + (p.room - o) <= pk.base; omega))
   ·exact .inr (.inr (by show pk.base + pk.room <= p.base + o; omega))
  ·obtain ⟨e1,hj⟩:=hold j oj hj ej
   rw [upd_ne _ _ ej] at h1
   by_cases ek:k = h.next
   ·subst ek; rw [upd_self] at h2; cases h2
    have:=hs.sep j i oj _ pj p e1 hj hg h1 hp hw
    rcases this with h | h | h
    ·exact .inl h
    ·exact .inr (.inl (by show pj.base + pj.room <= p.base + o; omega))
    ·exact .inr (.inr (by show p.base + o + (p.room - o) <= pj.base; omega))
   ·obtain ⟨e2,hk⟩:=hold k ok hk ek
    rw [upd_ne _ _ ek] at h2
    exact hs.sep j k oj ok pj pk hne hj hk h1 h2 hw
 ·intro b _ hoff
  exact putRowW_other fun e => hoff i _ p hg hp rfl e.symm
 ·intro j oj q hj hq hw
  by_cases ej:j = h.next
  ·subst ej; rw [upd_self] at hq; cases hq; exact .inr ⟨i,_,p,hg,hp,rfl,rfl⟩
  ·obtain ⟨_,hj⟩:=hold j oj hj ej
   rw [upd_ne _ _ ej] at hq
   exact .inr ⟨j,oj,q,hj,hq,hw,rfl⟩
 ·intro j q hj
  by_cases e:j = h.next
  ·subst e; exact .inr (Nat.le_refl _)
  ·rw [upd_ne _ _ e] at hj; exact .inl hj
end Go.AM
namespace Go.AM
open Go
theorem blt_true {a b:Nat} (h:a < b):Nat.blt a b = true:=by rw [Nat.blt_eq]; exact h
theorem blt_false {a b:Nat} (h:¬ a < b):Nat.blt a b = false:=by
 cases hx:Nat.blt a b with
 | false => rfl
 | true => rw [Nat.blt_eq] at hx; exact absurd hx h
def inR:Int -> Bool
 | .ofNat a => Nat.blt a 9223372036854775808
 | .negSucc a => Nat.blt a 9223372036854775808
def slow (n:Int):Int:=if n % 18446744073709551616 ≥ 9223372036854775808 then n % 18446744073709551616 - 18446744073709551616 else n % 18446744073709551616
theorem awrap_i64 (n:Int):awrap .i64 n = bif inR n then n else slow n:=by cases n <;> rfl
theorem inR_true {n:Int} (h:inR n = true) : -9223372036854775808 <= n /\ n < 9223372036854775808:=by
 cases n with
 | ofNat a => rw [inR,Nat.blt_eq] at h; have:Int.ofNat a = (a:Int):=rfl; omega
 | negSucc a => rw [inR,Nat.blt_eq] at h; omega
theorem slow_id {n:Int} (h : -9223372036854775808 <= n /\ n < 9223372036854775808):slow n = n:=by
 unfold slow; split <;> omega
theorem awrap_slow (n:Int):awrap .i64 n = slow n:=by
 rw [awrap_i64]
 cases h:inR n with
 | true => rw [cond_true,slow_id (inR_true h)]
 | false => rfl
theorem wrap_i64 (n:Int):IntKind.wrap .i64 n = slow n:=by
 have p64:(2:Int) ^ 64 = 18446744073709551616:=by decide +kernel
 have p63:(2:Int) ^ 63 = 9223372036854775808:=by decide +kernel
 simp only [IntKind.wrap,IntKind.bits,IntKind.signed,p64,Nat.reduceSub,p63,Bool.true_and,decide_eq_true_eq]
 rfl
theorem awrap_eq (k:IntKind) (n:Int):awrap k n = k.wrap n:=by
 have p8:(2:Int) ^ 8 = 256:=by decide +kernel
 have p16:(2:Int) ^ 16 = 65536:=by decide +kernel
 have p32:(2:Int) ^ 32 = 4294967296:=by decide +kernel
 have p64:(2:Int) ^ 64 = 18446744073709551616:=by decide +kernel
 have p7:(2:Int) ^ 7 = 128:=by decide +kernel
 have p15:(2:Int) ^ 15 = 32768:=by decide +kernel
 have p31:(2:Int) ^ 31 = 2147483648:=by decide +kernel
 cases k
 case i64 => rw [awrap_slow,wrap_i64]
 all_goals simp only [awrap,IntKind.wrap,IntKind.bits,IntKind.signed,p8,p16,p32,p64,Nat.reduceSub,p7,p15,p31,Bool.true_and,Bool.false_and,decide_eq_true_eq,Bool.false_eq_true,if_false]
theorem awrap_id {n:Int} (h1 : -9223372036854775808 <= n) (h2:n <= 9223372036854775807):awrap .i64 n = n:=by
 rw [awrap_slow,slow_id ⟨h1,by omega⟩]
theorem ilt_eq (a b:Int):ilt a b = decide (a < b):=by
 cases a <;> cases b <;> simp only [ilt]
 ·rename_i a b; by_cases h:a < b
  ·rw [blt_true h]; symm; rw [decide_eq_true_eq]; show (a:Int) < b; omega
  ·have:Nat.blt a b = false:=blt_false h
   rw [this]; symm; rw [decide_eq_false_iff_not]; show ¬ ((a:Int) < b); omega
 ·symm; rw [decide_eq_false_iff_not]; rename_i a b; show ¬ ((a:Int) < Int.negSucc b); omega
 ·symm; rw [decide_eq_true_eq]; rename_i a b; show Int.negSucc a < (b:Int); omega
 ·rename_i a b; by_cases h:b < a
  ·rw [blt_true h]; symm; rw [decide_eq_true_eq]; omega
  ·have:Nat.blt b a = false:=blt_false h
   rw [this]; symm; rw [decide_eq_false_iff_not]; omega
theorem ieq_eq (a b:Int):ieq a b = decide (a = b):=by
 cases a <;> cases b <;> simp only [ieq]
 ·rename_i a b; by_cases h:a = b
  ·subst h; simp
  ·have:Nat.beq a b = false:=by cases hx:Nat.beq a b <;> simp_all
   rw [this]; symm; rw [decide_eq_false_iff_not]; intro e; exact h (Int.ofNat.inj e)
 ·symm; rw [decide_eq_false_iff_not]; intro e; cases e
 ·symm; rw [decide_eq_false_iff_not]; intro e; cases e
 ·rename_i a b; by_cases h:a = b
  ·subst h; simp
  ·have:Nat.beq a b = false:=by cases hx:Nat.beq a b <;> simp_all
   rw [this]; symm; rw [decide_eq_false_iff_not]; intro e; exact h (Int.negSucc.inj e)
theorem keq_eq (a b:IntKind):keq a b = decide (a = b):=by cases a <;> cases b <;> rfl
theorem ieq_beq (a b:Int):ieq a b = (a == b):=by rw [ieq_eq]; rfl
theorem kmod_eq (k:IntKind) (x:Int):(BitVec.ofInt k.bits x).toNat = kmod k x:=by
 have p8:(2:Nat) ^ 8 = 256:=by decide
 have p16:(2:Nat) ^ 16 = 65536:=by decide
 have p32:(2:Nat) ^ 32 = 4294967296:=by decide
 have p64:(2:Nat) ^ 64 = 18446744073709551616:=by decide
 cases k <;> simp only [kmod,IntKind.bits,BitVec.toNat_ofInt,p8,p16,p32,p64] <;> rfl
theorem kbits_eq (k:IntKind):kbits k = k.bits:=by cases k <;> rfl
theorem kmask_eq (k:IntKind) (x:Int):(~~~(BitVec.ofInt k.bits x)).toNat = kmask k - kmod k x:=by
 rw [BitVec.toNat_not,kmod_eq]
 cases k <;> rfl
theorem ibits_run {P : Program} {w : World} {op : BinOp} {k : IntKind} {x y : Int} {av : AV} (h : ibits op k x y = some av) :
  ∃ v,(Op.intBits op k x y).run P w = .ok v w /\ ∀ ρ,VR ρ av v:=by
 cases op <;> simp only [ibits,Option.some.injEq,reduceCtorEq] at h <;> subst h <;>
  (refine ⟨_,rfl,fun ρ => ?_⟩; rw [awrap_eq]) <;>
  simp only [BitVec.toNat_and,BitVec.toNat_or,BitVec.toNat_xor,kmod_eq,kmask_eq] <;> exact .int _ _
theorem ishift_run {P : Program} {w : World} {left : Bool} {k yk : IntKind} {x y : Int} {av : AV} (h : ishift left k x y = some av) :
  ∃ v,(Op.shift (if left then .shl else .shr) k x yk y).run P w = .ok v w /\ ∀ ρ,VR ρ av v:=by
 unfold ishift at h
 by_cases hy:y < 0
 ·rw [if_pos hy] at h; cases h
 ·rw [if_neg hy,kbits_eq,awrap_eq] at h
  have hp:∀ n:Nat,(((2:Nat) ^ n:Nat):Int) = (2:Int) ^ n:=fun n => by simp
  rw [hp] at h
  cases left
  ·simp at h; subst h
   exact ⟨_,by simp only [Op.shift,if_neg hy]; rfl,fun ρ => .int _ _⟩
  ·simp at h; subst h
   exact ⟨_,by simp only [Op.shift,if_neg hy]; rfl,fun ρ => .int _ _⟩
theorem toList_map (s:ByteArray):s.toList = s.data.toList:=ByteArray.toList_eq s
theorem map_toNat_inj {a b:List UInt8} (h:a.map (·.toNat) = b.map (·.toNat)):a = b :=
 (List.map_inj_right (fun _ _ hxy => UInt8.toNat_inj.1 hxy)).1 h
theorem less_eq (a b:List UInt8):less (a.map (·.toNat)) (b.map (·.toNat)) = Op.bytesLess a b:=by
 induction a generalizing b with
 | nil => cases b <;> simp [less,Op.bytesLess]
 | cons x xs ih =>
  cases b with
  | nil => simp [less,Op.bytesLess]
  | cons y ys =>
   simp only [List.map_cons,less,Op.bytesLess,ih]
   have e1:decide (x.toNat < y.toNat) = decide (x < y):=by simp [UInt8.lt_iff_toNat_lt]
   have e2:Nat.beq x.toNat y.toNat = (x == y):=by
    by_cases h:x = y
    ·subst h; simp
    ·have h1:x.toNat ≠ y.toNat:=fun e => h (UInt8.toNat_inj.1 e)
     have h2:Nat.beq x.toNat y.toNat = false:=by cases hx:Nat.beq x.toNat y.toNat <;> simp_all
     rw [h2]; simp [h]
   rw [e1,e2]
theorem strs_eq (s t:ByteArray):decide (s.data.toList.map (·.toNat) = t.data.toList.map (·.toNat)) = (s.toList == t.toList):=by
 rw [toList_map,toList_map]
 by_cases h:s.data.toList = t.data.toList
 ·simp [h]
 ·have:¬ (s.data.toList.map (·.toNat) = t.data.toList.map (·.toNat)):=fun e => h (map_toNat_inj e)
  rw [decide_eq_false this]; symm; simpa using fun e => h (congrArg Array.toList e)
theorem sbin_run {P : Program} {w : World} {op : BinOp} {s t : ByteArray} {av : AV} (h : sbin op (s.data.toList.map (·.toNat)) (t.data.toList.map (·.toNat)) = some av) :
  ∃ v,(Op.stringOp op s t).run P w = .ok v w /\ ∀ ρ,VR ρ av v:=by
 have hl:∀ s t:ByteArray,less (s.data.toList.map (·.toNat)) (t.data.toList.map (·.toNat)) = Op.bytesLess s.toList t.toList:=fun s t => by rw [less_eq,toList_map,toList_map]
 cases op with
 | add =>
  simp only [sbin,List.length_map] at h
  split at h
  ·rename_i hle
   cases h
   have e1:s.data.toList.length = s.size:=rfl
   have e2:t.data.toList.length = t.size:=rfl
   rw [e1,e2] at hle
   have:¬ (((s.size + t.size:Nat):Int) > IntKind.max .i64):=by
    have:IntKind.max .i64 = 9223372036854775807:=by decide
    rw [this]; omega
   refine ⟨_,by simp only [Op.stringOp,if_neg this]; rfl,fun ρ => .str ?_⟩
   simp [ByteArray.data_append]
  ·cases h
 | eql => simp only [sbin,Option.some.injEq] at h; subst h; exact ⟨_,rfl,fun ρ => by rw [strs_eq]; exact .bool _⟩
 | neq => simp only [sbin,Option.some.injEq] at h; subst h; exact ⟨_,rfl,fun ρ => by rw [strs_eq]; exact .bool _⟩
 | lss => simp only [sbin,Option.some.injEq] at h; subst h; exact ⟨_,rfl,fun ρ => by rw [hl]; exact .bool _⟩
 | leq => simp only [sbin,Option.some.injEq] at h; subst h; exact ⟨_,rfl,fun ρ => by rw [hl,strs_eq]; exact .bool _⟩
 | gtr => simp only [sbin,Option.some.injEq] at h; subst h; exact ⟨_,rfl,fun ρ => by rw [hl,strs_eq]; exact .bool _⟩
 | geq => simp only [sbin,Option.some.injEq] at h; subst h; exact ⟨_,rfl,fun ρ => by rw [hl]; exact .bool _⟩
 | _ => simp [sbin] at h
theorem eqCell_run {ρ : Rho} {P : Program} {w : World} {a b : AV} {v u : Value} {t : TypeId} {r : Bool} {D d k : Nat} (hf : flatT P (d + 1) t = some [k]) (hag : aggT P t = some false)
  (ha:VR ρ a v) (hb:VR ρ b u) (h:eqCell k a b = some r):(Op.equalIn (D + 1) t v u).run P w = .ok r w:=by
 unfold flatT at hf
 unfold aggT at hag
 cases hu:P.underlying t with
 | none => rw [hu] at hf; simp at hf
 | some dsc =>
  rw [hu] at hf hag
  cases a with
  | int q n =>
   cases b with
   | int q' n' =>
    cases ha; cases hb
    simp only [eqCell,keq_eq] at h
    by_cases e:q = q'
    ·subst e
     cases hk:Nat.beq k 1 with
     | false => simp [hk] at h
     | true =>
      obtain rfl:=Nat.eq_of_beq_eq_true hk
      simp at h; subst h
      rw [ieq_beq]
      cases dsc <;> simp at hf hag
      simp [Op.equalIn,run_underlying hu]
    ·simp [e] at h
   | _ => simp [eqCell] at h
  | bool x =>
   cases b with
   | bool y =>
    cases ha; cases hb
    simp only [eqCell] at h
    cases hk:Nat.beq k 0 with
    | false => simp [hk] at h
    | true =>
     obtain rfl:=Nat.eq_of_beq_eq_true hk
     simp at h; subst h
     cases dsc <;> simp at hf hag
     simp [Op.equalIn,run_underlying hu]
   | _ => simp [eqCell] at h
  | str x =>
   cases b with
   | str y =>
    cases ha with | str ha => cases hb with | str hb =>
    subst ha; subst hb
    simp only [eqCell] at h
    cases hk:Nat.beq k 2 with
    | false => simp [hk] at h
    | true =>
     obtain rfl:=Nat.eq_of_beq_eq_true hk
     simp only [Nat.beq_refl,cond_true,Option.some.injEq] at h; subst h
     rw [strs_eq]
     cases dsc <;> simp at hf hag
     exact run_equalIn_string w D t _ _ hu
   | _ => simp [eqCell] at h
  | _ => simp [eqCell] at h
end Go.AM
namespace Go.AM
open Go
theorem eqCells_append {k1 : List Nat} : ∀ {x1 y1 : List AV} {k2 : List Nat} {x2 y2 : List AV}, k1.length = x1.length -> k1.length = y1.length ->
  eqCells (k1 ++ k2) (x1 ++ x2) (y1 ++ y2) = (match eqCells k1 x1 y1 with | some true => eqCells k2 x2 y2 | r => r):=by
 induction k1 with
 | nil =>
  intro x1 y1 k2 x2 y2 h1 h2
  obtain rfl:=List.eq_nil_of_length_eq_zero h1.symm
  obtain rfl:=List.eq_nil_of_length_eq_zero h2.symm
  simp [eqCells]
 | cons k k1 ih =>
  intro x1 y1 k2 x2 y2 h1 h2
  cases x1 with
  | nil => simp at h1
  | cons x x1 =>
   cases y1 with
   | nil => simp at h2
   | cons y y1 =>
    simp only [List.cons_append,eqCells]
    rw [ih (by simpa using h1) (by simpa using h2)]
    cases eqCell k x y with
    | none => rfl
    | some b => cases b <;> rfl
def valOf (P:Program) (t:TypeId) (vs:List Value):Value:=if aggT P t = some true then .agg ⟨vs⟩ else vs.headD undef
theorem sizeT_run {P:Program} {t:TypeId} {n:Nat} (h:sizeT P t = some n) (w:World):(sizeOf t).run P w = .ok n w:=by
 unfold sizeT at h
 cases hi:P.info? t with
 | none => simp [hi] at h
 | some i => simp [hi] at h; rw [run_sizeOf w hi,Program.cellsOf,hi]; simp [h]
theorem aggT_run {P:Program} {t:TypeId} {b:Bool} (h:aggT P t = some b) (w:World):(isAgg t).run P w = .ok b w:=by
 unfold aggT at h
 cases hu:P.underlying t with
 | none => simp [hu] at h
 | some d => rw [hu] at h; cases d <;> simp at h <;> subst h <;> simp [isAgg,run_underlying hu]
theorem part_run {P : Program} {t : TypeId} {n o : Nat} {XS : Array Value} (hs : sizeT P t = some n) (b : Bool) (ha : aggT P t = some b) (h1 : b = false -> n = 1) (hlen : o + n <= XS.size) (w : World) :
  (part t XS o).run P w = .ok (valOf P t ((XS.toList.drop o).take n)) w:=by
 cases b with
 | true =>
  simp only [part,Sem.run_bind,aggT_run ha,Result.andThen_ok,if_true,sizeT_run hs,Sem.run_pure,valOf,ha]
  congr 2
  apply Array.ext'
  simp [Array.toList_extract,List.extract]
 | false =>
  obtain rfl:=h1 rfl
  simp only [part,Sem.run_bind,aggT_run ha,Result.andThen_ok,Bool.false_eq_true,if_false,valOf,ha]
  have hlt:o < XS.size:=by omega
  rw [Array.getElem?_eq_getElem hlt]
  simp only [Sem.run_pure]
  have:(XS.toList.drop o).take 1 = [XS[o]]:=by
   rw [List.take_one,List.head?_drop]
   simp [hlt]
  rw [this]; simp
theorem flat_scalar {P:Program} {d:Nat} {t:TypeId} {ks:List Nat} (h:flatT P d t = some ks) (ha:aggT P t = some false):∃ k,ks = [k]:=by
 cases d with
 | zero => simp [flatT] at h
 | succ d =>
  unfold flatT at h; unfold aggT at ha
  cases hu:P.underlying t with
  | none => simp [hu] at h
  | some dsc => rw [hu] at h ha; cases dsc <;> simp at h ha <;> exact ⟨_,h.symm⟩
theorem VRs.drop {ρ:Rho} {a:List AV} {v:List Value} (h:VRs ρ a v) (n:Nat):VRs ρ (a.drop n) (v.drop n):=by
 induction n generalizing a v with
 | zero => exact h
 | succ n ih => cases h with
  | nil => exact .nil
  | cons h hs => exact ih hs
theorem VRs.take {ρ:Rho} {a:List AV} {v:List Value} (h:VRs ρ a v) (n:Nat):VRs ρ (a.take n) (v.take n):=by
 induction n generalizing a v with
 | zero => exact .nil
 | succ n ih => cases h with
  | nil => exact .nil
  | cons h hs => exact .cons h (ih hs)
theorem flatT_agg {P:Program} {d:Nat} {t:TypeId} {ks:List Nat} (h:flatT P d t = some ks):∃ b,aggT P t = some b:=by
 cases d with
 | zero => simp [flatT] at h
 | succ d =>
  unfold flatT at h; unfold aggT
  cases hu:P.underlying t with
  | none => simp [hu] at h
  | some dsc => cases dsc <;> exact ⟨_,rfl⟩
theorem flat_run {ρ : Rho} {P : Program} : ∀ (d : Nat) (t : TypeId) (ks : List Nat) (D : Nat) (xs ys : List AV) (vs us : List Value) (r : Bool) (w : World), flatT P d t = some ks -> packedT P d t = true -> d <= D ->
  VRs ρ xs vs -> VRs ρ ys us -> xs.length = ks.length -> ys.length = ks.length -> eqCells ks xs ys = some r -> (Op.equalIn D t (valOf P t vs) (valOf P t us)).run P w = .ok r w:=by
 intro d
 induction d with
 | zero => intro t ks D xs ys vs us r w h; simp [flatT] at h
 | succ d ih =>
  intro t ks D xs ys vs us r w hf hp hD hx hy hlx hly he
  obtain ⟨D,rfl⟩:∃ D',D = D' + 1:=⟨D - 1,by omega⟩
  obtain ⟨b,hag⟩:=flatT_agg hf
  cases b with
  | false =>
   obtain ⟨k,rfl⟩:=flat_scalar hf hag
   cases hx with
   | nil => simp at hlx
   | cons hx hxs =>
    cases hxs with
    | cons _ _ => simp at hlx
    | nil =>
     cases hy with
     | nil => simp at hly
     | cons hy hys =>
      cases hys with
      | cons _ _ => simp at hly
      | nil =>
       simp only [valOf,hag,Option.some.injEq,Bool.false_eq_true,if_false,List.headD_cons]
       refine eqCell_run hf hag hx hy ?_
       simp only [eqCells] at he
       revert he
       cases eqCell k _ _ with
       | none => intro he; cases he
       | some b => cases b <;> intro he <;> cases he <;> rfl
  | true =>
   simp only [valOf,hag,if_true]
   have hag':=hag
   unfold aggT at hag'
   unfold flatT at hf
   unfold packedT at hp
   cases hu:P.underlying t with
   | none => simp [hu] at hf
   | some dsc =>
    rw [hu] at hf hag' hp
    cases dsc <;> simp at hag'
    ·-- an array
     rename_i n e
     simp only at hf hp
     cases hfe:flatT P d e with
     | none => simp [hfe] at hf
     | some ke =>
      simp only [hfe] at hf
      split at hf
      ·rename_i hsz
       cases hf
       obtain ⟨i,hi⟩:∃ i,P.info? e = some i:=by
        unfold sizeT at hsz; cases hi:P.info? e with
        | none => simp [hi] at hsz
        | some i => exact ⟨i,rfl⟩
       have hcell:P.cellsOf e = ke.length:=by
        unfold sizeT at hsz; rw [hi] at hsz; simp [Program.cellsOf,hi]; simpa using hsz
       rw [run_equalIn_array w D _ _ hu hi,hcell]
       obtain ⟨be,hbe⟩:=flatT_agg hfe
       have h1:be = false -> ke.length = 1:=by
        rintro rfl; obtain ⟨k,rfl⟩:=flat_scalar hfe hbe; rfl
       have key : ∀ (m j : Nat), j + m = n -> ∀ r, eqCells (List.replicate m ke).flatten (xs.drop (j * ke.length)) (ys.drop (j * ke.length)) = some r ->
         (Op.eqItems D e ke.length ⟨vs⟩ ⟨us⟩ (List.range' j m)).run P w = .ok r w:=by
        intro m
        induction m with
        | zero =>
         intro j hj r hr
         simp only [List.replicate_zero,List.flatten_nil,List.range'_zero,Op.eqItems,Sem.run_pure] at hr ⊢
         have hlx':xs.length = n * ke.length:=by simpa using hlx
         have hly':ys.length = n * ke.length:=by simpa using hly
         have e1:xs.drop (j * ke.length) = []:=by apply List.drop_eq_nil_of_le; rw [hlx', <- hj]; simp
         have e2:ys.drop (j * ke.length) = []:=by apply List.drop_eq_nil_of_le; rw [hly', <- hj]; simp
         rw [e1,e2,eqCells] at hr; cases hr; rfl
        | succ m ihm =>
         intro j hj r hr
         have hlx':xs.length = n * ke.length:=by simpa using hlx
         have hly':ys.length = n * ke.length:=by simpa using hly
         have hle:j * ke.length + ke.length <= n * ke.length:=by
          rw [<- Nat.succ_mul]; exact Nat.mul_le_mul_right _ (by omega)
         rw [List.replicate_succ,List.flatten_cons] at hr
         rw [<- List.take_append_drop ke.length (xs.drop (j * ke.length)), <- List.take_append_drop ke.length (ys.drop (j * ke.length)),
          eqCells_append (by simp; omega) (by simp; omega)] at hr
         have p1:=part_run (P:=P) (t:=e) (n:=ke.length) (o:=j * ke.length) (XS:=⟨vs⟩) hsz be hbe h1 (by have:=VRs.length hx; simp; omega) w
         have p2:=part_run (P:=P) (t:=e) (n:=ke.length) (o:=j * ke.length) (XS:=⟨us⟩) hsz be hbe h1 (by have:=VRs.length hy; simp; omega) w
         simp only [List.range'_succ,Op.eqItems,Sem.run_bind,p1,p2,Result.andThen_ok]
         cases hr1:eqCells ke ((xs.drop (j * ke.length)).take ke.length) ((ys.drop (j * ke.length)).take ke.length) with
         | none => rw [hr1] at hr; cases hr
         | some b1 =>
          have:=ih e ke D _ _ _ _ b1 w hfe hp (by omega) ((hx.drop (j * ke.length)).take ke.length) ((hy.drop (j * ke.length)).take ke.length) (by simp; omega) (by simp; omega) hr1
          rw [this]
          rw [hr1] at hr
          cases b1
          ·simp at hr; subst hr; simp
          ·simp only [List.drop_drop] at hr
           have:=ihm (j + 1) (by omega) r (by rw [Nat.succ_mul]; exact hr)
           simpa using this
       rw [List.range_eq_range']
       exact key n 0 (by omega) r (by simpa using he)
      ·cases hf
    ·-- a struct
     rename_i fs
     simp only at hf hp
     split at hf
     ·cases hf
     ·rename_i hst
      have hfields:P.fieldsOf t = fs:=by simp [Program.fieldsOf,hu]
      rw [run_equalIn_struct w D t _ _ (by rw [hfields]; exact hu) (by simpa using hst),hfields]
      simp only [Bool.and_eq_true,List.all_eq_true] at hp
      obtain ⟨hpk,hpt⟩:=hp
      have key : ∀ (fl : List Field) (o : Nat) (kl : List Nat), (∀ f ∈ fl, packedT P d f.type = true) -> flatT.flatFs P (flatT P d) fl = some kl -> packed P o fl = true -> o + kl.length <= xs.length -> o + kl.length <= ys.length ->
        ∀ r,eqCells kl ((xs.drop o).take kl.length) ((ys.drop o).take kl.length) = some r -> (Op.eqFields D ⟨vs⟩ ⟨us⟩ fl).run P w = .ok r w:=by
       intro fl
       induction fl with
       | nil =>
        intro o kl _ hfl _ _ _ r hr
        simp [flatT.flatFs] at hfl; subst hfl
        simp [eqCells] at hr; subst hr
        simp [Op.eqFields]
       | cons f fl ihf =>
        intro o kl hpt hfl hpk hl1 hl2 r hr
        simp only [flatT.flatFs] at hfl
        split at hfl
        ·cases hfl
        ·rename_i hname
         cases hff:flatT P d f.type with
         | none => simp [hff] at hfl
         | some kf =>
          cases hfr:flatT.flatFs P (flatT P d) fl with
          | none => simp [hff,hfr] at hfl
          | some kr =>
           simp only [hff,hfr] at hfl
           split at hfl
           ·rename_i hsz
            cases hfl
            simp only [packed,hsz,Bool.and_eq_true,beq_iff_eq] at hpk
            obtain ⟨ho,hpk⟩:=hpk
            simp only [List.length_append] at hl1 hl2 hr
            obtain ⟨be,hbe⟩:=flatT_agg hff
            have h1:be = false -> kf.length = 1:=by
             rintro rfl; obtain ⟨k,rfl⟩:=flat_scalar hff hbe; rfl
            have p1:=part_run (P:=P) (t:=f.type) (n:=kf.length) (o:=o) (XS:=⟨vs⟩) hsz be hbe h1 (by have:=VRs.length hx; simp; omega) w
            have p2:=part_run (P:=P) (t:=f.type) (n:=kf.length) (o:=o) (XS:=⟨us⟩) hsz be hbe h1 (by have:=VRs.length hy; simp; omega) w
            have et:∀ l:List AV,(l.drop o).take (kf.length + kr.length) = (l.drop o).take kf.length ++ ((l.drop (o + kf.length)).take kr.length):=by
             intro l; rw [List.take_add,List.drop_drop]
            rw [et,et,eqCells_append (by simp; omega) (by simp; omega)] at hr
            simp only [Op.eqFields,ne_eq,hname,not_false_eq_true,if_true,ho,Sem.run_bind,p1,p2,Result.andThen_ok]
            cases hr1:eqCells kf ((xs.drop o).take kf.length) ((ys.drop o).take kf.length) with
            | none => rw [hr1] at hr; cases hr
            | some b1 =>
             have:=ih f.type kf D _ _ _ _ b1 w hff (hpt f (by simp)) (by omega) ((hx.drop o).take kf.length) ((hy.drop o).take kf.length) (by simp; omega) (by simp; omega) hr1
             rw [this]
             rw [hr1] at hr
             cases b1
             ·simp at hr; subst hr; simp
             ·simp only at hr
              have:=ihf (o + kf.length) kr (fun g hg => hpt g (by simp [hg])) hfr hpk (by omega) (by omega) r hr
              simpa using this
           ·cases hfl
      exact key fs.toList 0 ks (fun f hf => hpt f hf) hf hpk (by omega) (by omega) r (by
       rw [List.drop_zero,List.drop_zero,List.take_of_length_le (by omega),List.take_of_length_le (by omega)]; exact he)
end Go.AM
namespace Go.AM
open Go
mutual
theorem absV_sound {ρ:Rho}:∀ (v:Value) (a:AV),absV v = some a -> VR ρ a v
 | .int k n,a,h => by simp [absV] at h; subst h; exact .int _ _
 | .bool b,a,h => by simp [absV] at h; subst h; exact .bool _
 | .string s,a,h => by simp [absV] at h; subst h; exact .str rfl
 | .pointer none,a,h => by simp [absV] at h; subst h; exact .nilp
 | .pointer (some _),a,h => by simp [absV] at h
 | .slice none n c,a,h => by
  unfold absV at h
  split at h <;> first | (cases h; done) | skip
  all_goals first | (simp_all; done) | skip
  rename_i e; cases e; cases h; exact .nils
 | .slice (some _) _ _,a,h => by simp [absV] at h
 | .map none,a,h => by simp [absV] at h; subst h; exact .nilm
 | .map (some _),a,h => by simp [absV] at h
 | .nilFunc,a,h => by simp [absV] at h; subst h; exact .nilf
 | .nilIface,a,h => by simp [absV] at h; subst h; exact .nili
 | .func f ⟨x⟩ ⟨y⟩,a,h => by
  cases f with
  | func g =>
   cases x with
   | nil => cases y with
    | nil => simp [absV] at h; subst h; exact .fn (fun _ e => by cases e) .nil .nil
    | cons _ _ => simp [absV] at h
   | cons _ _ => simp [absV] at h
  | _ => simp [absV] at h
 | .agg ⟨cs⟩,a,h => by
  simp only [absV] at h
  cases hc:absVs cs with
  | none => rw [hc] at h; cases h
  | some l => rw [hc] at h; cases h; exact .agg (absVs_sound cs l hc)
 | .tuple ⟨cs⟩,a,h => by
  simp only [absV] at h
  cases hc:absVs cs with
  | none => rw [hc] at h; cases h
  | some l => rw [hc] at h; cases h; exact .tup (absVs_sound cs l hc)
 | .float ..,a,h => by simp [absV] at h
 | .complex ..,a,h => by simp [absV] at h
 | .chan _,a,h => by simp [absV] at h
 | .iface ..,a,h => by simp [absV] at h
theorem absVs_sound {ρ:Rho}:∀ (vs:List Value) (l:List AV),absVs vs = some l -> VRs ρ l vs
 | [],l,h => by simp [absVs] at h; subst h; exact .nil
 | v :: vs,l,h => by
  simp only [absVs] at h
  cases h1:absV v with
  | none => rw [h1] at h; cases h
  | some a =>
   cases h2:absVs vs with
   | none => rw [h1,h2] at h; cases h
   | some r => rw [h1,h2] at h; cases h; exact .cons (absV_sound v a h1) (absVs_sound vs r h2)
end
section
variable {P:Program} {ρ:Rho} {h:AHeap} {B:Nat} {w:World} {tm:List AV} {a:Act}
theorem opd_sound (ht:TR ρ tm a.tmps) {x:Operand} {ax:AOpd} (hx:trOpd x = some ax):VR ρ (ev tm ax) (a.eval x):=by
 cases x with
 | tmp t => simp [trOpd] at hx; subst hx; exact ht.nth t
 | const v =>
  simp only [trOpd] at hx
  cases hv:absV v with
  | none => rw [hv] at hx; cases hx
  | some av => rw [hv] at hx; cases hx; exact absV_sound v av hv
 | global g => simp [trOpd] at hx
 | func f => simp [trOpd] at hx; subst hx; exact .fn (fun _ e => by cases e) .nil .nil
theorem opds_sound (ht:TR ρ tm a.tmps):∀ {xs:List Operand} {axs:List AOpd},trOpds xs = some axs -> VRs ρ (evs tm axs) (xs.map a.eval)
 | [],_,hx => by simp [trOpds] at hx; subst hx; exact .nil
 | x :: xs,_,hx => by
  simp only [trOpds] at hx
  cases h1:trOpd x with
  | none => rw [h1] at hx; cases hx
  | some ax =>
   cases h2:trOpds xs with
   | none => rw [h1,h2] at hx; cases hx
   | some axs => rw [h1,h2] at hx; cases hx; exact .cons (opd_sound ht h1) (opds_sound ht h2)
theorem zeroOf_run {t:TypeId} {z:List AV} (hz:zeroOf P t = some z) (ρ:Rho) (w:World):∃ zv,(zeroValue t).run P w = .ok zv w /\ VRs ρ z zv.cells.toList:=by
 unfold zeroOf at hz
 cases hi:P.info? t with
 | none => simp [hi] at hz
 | some i =>
  simp only [hi] at hz
  cases hzv:i.zero with
  | none => simp [hzv] at hz
  | some zv =>
   simp only [hzv] at hz
   exact ⟨zv,by simp [zeroValue,run_typeInfo w hi,hzv],absVs_sound _ _ hz⟩
theorem zeroV_run {t:TypeId} {z:AV} (hz:zeroV P t = some z) (ρ:Rho) (w:World):∃ zv,(zeroValue t).run P w = .ok zv w /\ VR ρ z zv:=by
 unfold zeroV at hz
 cases hi:P.info? t with
 | none => simp [hi] at hz
 | some i =>
  simp only [hi] at hz
  cases hzv:i.zero with
  | none => simp [hzv] at hz
  | some zv =>
   simp only [hzv] at hz
   exact ⟨zv,by simp [zeroValue,run_typeInfo w hi,hzv],absV_sound _ _ hz⟩
theorem layT_some {t:TypeId} {n:Option Nat} (hl:layT P t = some n):(∃ k,n = some k /\ aggT P t = some true /\ sizeT P t = some k) \/ (n = none /\ aggT P t = some false):=by
 unfold layT at hl
 cases h1:aggT P t with
 | none => simp [h1] at hl
 | some b =>
  cases h2:sizeT P t with
  | none => cases b <;> simp [h1,h2] at hl
  | some k => cases b <;> simp [h1,h2] at hl <;> subst hl <;> simp
theorem fit_run (hs : Sim P ρ h B w) {i off : Nat} {c : List AV} {r : Bool} {p : Place} {n : Option Nat} {t : TypeId} {av : AV} (hg : h.get i = some (.cells c r)) (hp : ρ i = some p)
  (hl:layT P t = some n) (hf:fit n off c = some av):∃ v,(loadVar t ⟨p.blk,p.base + off,none⟩).run P w = .ok v w /\ VR ρ av v:=by
 rcases layT_some hl with ⟨k,rfl,h1,h2⟩ | ⟨rfl,h1⟩
 ·simp only [fit] at hf
  cases hc:cut c off k with
  | none => rw [hc] at hf; cases hf
  | some rr =>
   rw [hc] at hf; cases hf
   obtain ⟨vs,e1,e2,e3⟩:=read_cut hs hg hp hc
   refine ⟨.agg ⟨vs⟩,?_, .agg e2⟩
   have:=run_loadCells_of (P:=P) (w:=w) (b:=p.blk) (o:=p.base + off) e3
   rw [e1] at this
   simp [loadVar,aggT_run h1,sizeT_run h2,this]
 ·simp only [fit] at hf
  cases hc:cut c off 1 with
  | none => rw [hc] at hf; cases hf
  | some rr =>
   rw [hc] at hf
   obtain ⟨vs,e1,e2,e3⟩:=read_cut hs hg hp hc
   cases e2 with
   | nil => simp at e1
   | cons hv hvs =>
    cases hvs with
    | cons _ _ => simp at e1
    | nil =>
     simp only [Option.some.injEq] at hf; subst hf
     have:=e3 0 _ rfl
     simp only [Nat.add_zero] at this
     exact ⟨_,by simp [loadVar,aggT_run h1,this],hv⟩
theorem fit_part {cs : List AV} {vs : Array Value} (hv : VRs ρ cs vs.toList) {n : Option Nat} {off : Nat} {t : TypeId} {av : AV} (hl : layT P t = some n) (hf : fit n off cs = some av) :
  ∃ v,(part t vs off).run P w = .ok v w /\ VR ρ av v:=by
 have hlen:=VRs.length hv
 rcases layT_some hl with ⟨k,rfl,h1,h2⟩ | ⟨rfl,h1⟩
 ·simp only [fit] at hf
  cases hc:cut cs off k with
  | none => rw [hc] at hf; cases hf
  | some rr =>
   rw [hc] at hf; cases hf
   obtain ⟨g1,rfl⟩:=cut_eq hc
   refine ⟨.agg (vs.extract off (off + k)),by simp [part,aggT_run h1,sizeT_run h2], .agg ?_⟩
   have:(vs.extract off (off + k)).toList = (vs.toList.drop off).take k:=by
    simp [Array.toList_extract,List.extract]
   rw [this]
   exact (hv.drop off).take k
 ·simp only [fit] at hf
  cases hc:cut cs off 1 with
  | none => rw [hc] at hf; cases hf
  | some rr =>
   rw [hc] at hf
   obtain ⟨g1,rfl⟩:=cut_eq hc
   have hlt:off < cs.length:=by omega
   have:(cs.drop off).take 1 = [cs[off]]:=by rw [List.take_one,List.head?_drop]; simp [hlt]
   rw [this] at hf; cases hf
   obtain ⟨y,hy,hr⟩:=VRs.get hv (List.getElem?_eq_getElem hlt)
   have hy':vs[off]? = some y:=by simpa using hy
   exact ⟨y,by simp [part,aggT_run h1,hy'],hr⟩
theorem bytes_run {r:List AV} {vs:List Value} (hv:VRs ρ r vs):∀ {l:List Nat},bytesOf r = some l -> ∃ ns:List Int,vs = ns.map (Value.int .u8) /\ l = ns.map fun n => n.toNat % 256:=by
 induction r generalizing vs with
 | nil => intro l hl; simp [bytesOf] at hl; subst hl; cases hv; exact ⟨[],rfl,rfl⟩
 | cons x xs ih =>
  intro l hl
  cases hv with
  | cons h1 h2 =>
   cases x with
   | int k n =>
    cases k <;> simp [bytesOf] at hl
    cases hb:bytesOf xs with
    | none => rw [hb] at hl; cases hl
    | some l' =>
     rw [hb] at hl; cases hl
     obtain ⟨ns,rfl,rfl⟩:=ih h2 hb
     cases h1
     exact ⟨n :: ns,rfl,rfl⟩
   | _ => simp [bytesOf] at hl
theorem foldl_push (ns:List Int):∀ s:ByteArray,(ns.foldl (fun r n => r.push (UInt8.ofNat n.toNat)) s).data.toList.map (·.toNat) = s.data.toList.map (·.toNat) ++ ns.map fun n => n.toNat % 256:=by
 induction ns with
 | nil => intro s; simp
 | cons n ns ih => intro s; rw [List.foldl_cons,ih]; simp
theorem bounds_run {isSlice : Bool} {len cap l hh m : Nat} {lo hi mx : Option Int} {vlo vhi vmx : Option Value}
  (hb:bounds len cap lo hi mx = some (l,hh,m)) (h1:∀ x,lo = some x -> ∃ k,vlo = some (.int k x)) (h1':lo = none -> vlo = none) (h2:∀ x,hi = some x -> ∃ k,vhi = some (.int k x)) (h2':hi = none -> vhi = none)
  (h3:∀ x,mx = some x -> ∃ k,vmx = some (.int k x)) (h3':mx = none -> vmx = none) :
  (Instr.sliceBounds isSlice len cap vlo vhi vmx).run P w = .ok (l,hh,m) w:=by
 have hbnd:∀ (k:IntKind) (x:Int) (y:Nat) (c:BoundsCode),0 <= x /\ x <= y -> (Instr.sliceBound (.int k x) y c).run P w = .ok x.toNat w:=by
  intro k x y c hc
  simp [Instr.sliceBound,asIntOf,hc]
 unfold bounds at hb
 cases mx with
 | none =>
  obtain rfl:=h3' rfl
  simp only at hb
  cases hi with
  | none =>
   obtain rfl:=h2' rfl
   simp only at hb
   cases lo with
   | none => obtain rfl:=h1' rfl; simp at hb; obtain ⟨rfl,rfl,rfl⟩:=hb; simp [Instr.sliceBounds]
   | some x =>
    obtain ⟨k,rfl⟩:=h1 x rfl
    simp only at hb
    by_cases c:0 <= x /\ x <= (len:Int)
    ·rw [if_pos c] at hb; simp at hb; obtain ⟨rfl,rfl,rfl⟩:=hb
     simp [Instr.sliceBounds,hbnd k x len _ c]
    ·rw [if_neg c] at hb; simp at hb
  | some y =>
   obtain ⟨ky,rfl⟩:=h2 y rfl
   simp only at hb
   by_cases cy:0 <= y /\ y <= (cap:Int)
   ·rw [if_pos cy] at hb
    simp only at hb
    cases lo with
    | none => obtain rfl:=h1' rfl; simp at hb; obtain ⟨rfl,rfl,rfl⟩:=hb; simp [Instr.sliceBounds,hbnd ky y cap _ cy]
    | some x =>
     obtain ⟨k,rfl⟩:=h1 x rfl
     simp only at hb
     by_cases c:0 <= x /\ x <= ((y.toNat:Nat):Int)
     ·rw [if_pos c] at hb; simp at hb; obtain ⟨rfl,rfl,rfl⟩:=hb
      simp [Instr.sliceBounds,hbnd ky y cap _ cy,hbnd k x y.toNat _ c]
     ·rw [if_neg c] at hb; simp at hb
   ·rw [if_neg cy] at hb; simp at hb
 | some z =>
  obtain ⟨kz,rfl⟩:=h3 z rfl
  simp only at hb
  by_cases cz:0 <= z /\ z <= (cap:Int)
  ·rw [if_pos cz] at hb
   simp only at hb
   cases hi with
   | none => simp at hb
   | some y =>
    obtain ⟨ky,rfl⟩:=h2 y rfl
    simp only at hb
    by_cases cy:0 <= y /\ y <= ((z.toNat:Nat):Int)
    ·rw [if_pos cy] at hb
     simp only at hb
     cases lo with
     | none => obtain rfl:=h1' rfl; simp at hb; obtain ⟨rfl,rfl,rfl⟩:=hb; simp [Instr.sliceBounds,hbnd kz z cap _ cz,hbnd ky y z.toNat _ cy]
     | some x =>
      obtain ⟨k,rfl⟩:=h1 x rfl
      simp only at hb
      by_cases c:0 <= x /\ x <= ((y.toNat:Nat):Int)
      ·rw [if_pos c] at hb; simp at hb; obtain ⟨rfl,rfl,rfl⟩:=hb
       simp [Instr.sliceBounds,hbnd kz z cap _ cz,hbnd ky y z.toNat _ cy,hbnd k x y.toNat _ c]
      ·rw [if_neg c] at hb; simp at hb
    ·rw [if_neg cy] at hb; simp at hb
  ·rw [if_neg cz] at hb; simp at hb
theorem bounds_le {len cap l hh m:Nat} {lo hi mx:Option Int} (hb:bounds len cap lo hi mx = some (l,hh,m)) (hlc:len <= cap):l <= hh /\ hh <= m /\ m <= cap:=by
 unfold bounds at hb
 split at hb
 ·cases hb
 ·rename_i m' hm
  split at hb
  ·cases hb
  ·rename_i h' hh'
   split at hb
   ·cases hb
   ·rename_i l' hl
    simp at hb; obtain ⟨rfl,rfl,rfl⟩:=hb
    have e1:m' <= cap:=by
     revert hm; cases mx with
     | none => intro hm; simp at hm; omega
     | some z => intro hm; simp only at hm; split at hm <;> simp at hm; omega
    have e2:h' <= m':=by
     revert hh'; cases hi with
     | none => cases mx with
      | none => intro hh'; simp at hh' hm; omega
      | some z => intro hh'; simp at hh'
     | some y => intro hh'; simp only at hh'; split at hh' <;> simp at hh'; omega
    have e3:l' <= h':=by
     revert hl; cases lo with
     | none => intro hl; simp at hl; omega
     | some x => intro hl; simp only at hl; split at hl <;> simp at hl; omega
    exact ⟨e3,e2,e1⟩
theorem optInt_sound (ht : TR ρ tm a.tmps) {x : Option Operand} {ax : Option AOpd} (hx : trO x = some ax) {r : Option Int} (hr : optInt tm ax = some r) :
  (∀ n,r = some n -> ∃ k,x.map a.eval = some (.int k n)) /\ (r = none -> x.map a.eval = none):=by
 cases x with
 | none => simp [trO] at hx; subst hx; simp [optInt] at hr; subst hr; simp
 | some x =>
  simp only [trO] at hx
  cases h1:trOpd x with
  | none => rw [h1] at hx; cases hx
  | some y =>
   rw [h1] at hx; cases hx
   have hv:=opd_sound ht h1
   simp only [optInt] at hr
   simp only [Option.map_some]
   generalize a.eval x = vx at hv ⊢
   revert hr hv
   cases ev tm y with
   | int k n => intro hr hv; simp at hr; subst hr; refine ⟨fun n' e => ?_,by simp⟩; cases e; cases hv; exact ⟨k,rfl⟩
   | _ => intro hr; simp at hr
end
end Go.AM
namespace Go.AM
open Go
section
variable {P:Program} {ρ:Rho} {h:AHeap} {B:Nat} {w:World} {tm:List AV} {a:Act}
theorem arith_some {f:Int -> Int -> Int} {x y av:AV} (hb:arith f x y = some av):∃ k m n,x = .int k m /\ y = .int k n /\ av = .int k (k.wrap (f m n)):=by
 unfold arith at hb
 split at hb
 ·rename_i k m k' n
  rw [keq_eq] at hb
  by_cases e:k = k'
  ·subst e; simp only [decide_true,cond_true,Option.some.injEq] at hb; subst hb
   exact ⟨k,m,n,rfl,rfl,by rw [awrap_eq]⟩
  ·simp [e] at hb
 ·cases hb
theorem icmp_some {f:Int -> Int -> Bool} {x y av:AV} (hb:icmp f x y = some av):∃ k m n,x = .int k m /\ y = .int k n /\ av = .bool (f m n):=by
 unfold icmp at hb
 split at hb
 ·rename_i k m k' n
  rw [keq_eq] at hb
  by_cases e:k = k'
  ·subst e; simp only [decide_true,cond_true,Option.some.injEq] at hb; subst hb
   exact ⟨k,m,n,rfl,rfl,rfl⟩
  ·simp [e] at hb
 ·cases hb
theorem ibits2_some {op:BinOp} {x y av:AV} (hb:ibits2 op x y = some av):∃ k m n,x = .int k m /\ y = .int k n /\ ibits op k m n = some av:=by
 unfold ibits2 at hb
 split at hb
 ·rename_i k m k' n
  rw [keq_eq] at hb
  by_cases e:k = k'
  ·subst e; simp only [decide_true,cond_true] at hb
   exact ⟨k,m,n,rfl,rfl,hb⟩
  ·simp [e] at hb
 ·cases hb
theorem eql_run {t:TypeId} {vx vy:Value} {r:Bool} (he:(Op.equal t vx vy).run P w = .ok r w):(do pure (Value.bool (<- Op.equal t vx vy)):Sem Value).run P w = .ok (.bool r) w:=by
 simp only [Sem.run_bind,he,Result.andThen_ok,Sem.run_pure]
theorem neq_run {t:TypeId} {vx vy:Value} {r:Bool} (he:(Op.equal t vx vy).run P w = .ok r w):(do pure (Value.bool (!(<- Op.equal t vx vy))):Sem Value).run P w = .ok (.bool (!r)) w:=by
 simp only [Sem.run_bind,he,Result.andThen_ok,Sem.run_pure]
theorem eqGuard_plain {op : BinOp} {t : TypeId} {ox oy : Operand} {vx vy : Value} (h1 : ¬ (∃ x y, vx = .agg x /\ vy = .agg y)) (h2 : ¬ (vx = .nilIface /\ vy = .nilIface)) :
  (eqGuard op t ox oy vx vy).run P w = .ok () w:=by
 cases op <;> first
  | (simp [eqGuard]; done)
  | (cases vx <;> first
    | (simp [eqGuard]; done)
    | (cases vy <;> first
      | (simp [eqGuard]; done)
      | exact absurd ⟨_,_,rfl,rfl⟩ h1
      | exact absurd ⟨rfl,rfl⟩ h2))
theorem not_ilt (a b:Int):(!ilt b a) = decide (a <= b):=by
 rw [ilt_eq]
 by_cases h:a <= b
 ·rw [decide_eq_true h,decide_eq_false (by omega)]; rfl
 ·rw [decide_eq_false h,decide_eq_true (by omega)]; rfl
theorem eqi_ptr {t e : TypeId} (hu : P.underlying t = some (.pointer e)) (D : Nat) : (∀ b, (Op.equalIn (D + 1) t (.pointer none) (.pointer b)).run P w = .ok b.isNone w) /\
  (∀ b,(Op.equalIn (D + 1) t (.pointer (some b)) (.pointer none)).run P w = .ok false w) :=
 ⟨fun b => by rw [Op.equalIn]; simp only [Sem.run_bind,run_underlying hu,Result.andThen_ok,Sem.run_pure],fun b => by rw [Op.equalIn]; simp only [Sem.run_bind,run_underlying hu,Result.andThen_ok,Sem.run_pure]⟩
theorem eqi_slice {t e : TypeId} (hu : P.underlying t = some (.slice e)) (D : Nat) : (∀ b n c, (Op.equalIn (D + 1) t (.slice none 0 0) (.slice b n c)).run P w = .ok b.isNone w) /\
  (∀ b n c,(Op.equalIn (D + 1) t (.slice (some b) n c) (.slice none 0 0)).run P w = .ok false w) :=
 ⟨fun b n c => by rw [Op.equalIn]; simp only [Sem.run_bind,run_underlying hu,Result.andThen_ok,Sem.run_pure],fun b n c => by rw [Op.equalIn]; simp only [Sem.run_bind,run_underlying hu,Result.andThen_ok,Sem.run_pure]⟩
theorem eqi_map {t e f : TypeId} (hu : P.underlying t = some (.map e f)) (D : Nat) : (∀ b, (Op.equalIn (D + 1) t (.map none) (.map b)).run P w = .ok b.isNone w) /\
  (∀ b,(Op.equalIn (D + 1) t (.map (some b)) (.map none)).run P w = .ok false w) :=
 ⟨fun b => by rw [Op.equalIn]; simp only [Sem.run_bind,run_underlying hu,Result.andThen_ok,Sem.run_pure],fun b => by rw [Op.equalIn]; simp only [Sem.run_bind,run_underlying hu,Result.andThen_ok,Sem.run_pure]⟩
theorem eqi_func {t : TypeId} {ps rs : Array TypeId} {v : Bool} (hu : P.underlying t = some (.func ps rs v)) (D : Nat) : ((Op.equalIn (D + 1) t .nilFunc .nilFunc).run P w = .ok true w) ∧
    (∀ f x y,(Op.equalIn (D + 1) t .nilFunc (.func f x y)).run P w = .ok false w) ∧ (∀ f x y,(Op.equalIn (D + 1) t (.func f x y) .nilFunc).run P w = .ok false w) :=
  ⟨by rw [Op.equalIn]; simp only [Sem.run_bind,run_underlying hu,Result.andThen_ok,Sem.run_pure],fun f x y => by rw [Op.equalIn]; simp only [Sem.run_bind,run_underlying hu,Result.andThen_ok,Sem.run_pure],
   fun f x y => by rw [Op.equalIn]; simp only [Sem.run_bind,run_underlying hu,Result.andThen_ok,Sem.run_pure]⟩
def RefV (vx:Value):Prop:=(∃ b,vx = .pointer b) \/ (∃ b n c,vx = .slice b n c) \/ (∃ b,vx = .map b) \/ vx = .nilFunc \/ (∃ f a b,vx = .func f a b)
theorem eqRef_run (D : Nat) {k : Nat} {t : TypeId} {x y : AV} {vx vy : Value} {r : Bool} (hk : eqK P t = .ref k) (hx : VR ρ x vx) (hy : VR ρ y vy) (hr : eqRef k x y = some r) :
  (Op.equalIn (D + 1) t vx vy).run P w = .ok r w /\ RefV vx:=by
 have hkind:∀ j,Nat.beq k j = true -> k = j:=fun j e => Nat.eq_of_beq_eq_true e
 unfold eqK at hk
 cases hu:P.underlying t with
 | none => rw [hu] at hk; cases hk
 | some d =>
  rw [hu] at hk
  have hfl:∀ k,eqK.flatE P t = .ref k -> False:=by
   intro k e; unfold eqK.flatE at e
   split at e
   ·split at e <;> cases e
   ·cases e
  unfold eqRef at hr
  split at hr
  case h_13 => cases hr
  all_goals (cases hb:Nat.beq k _ <;> rw [hb] at hr <;> simp only [cond_true,cond_false,reduceCtorEq,Option.some.injEq] at hr) <;>
   (obtain rfl:=hkind _ hb) <;> subst hr <;>
   (cases d <;> first | (exact absurd (hfl _ hk) id) | (cases hk; done) | skip) <;>
   cases hx <;> cases hy <;> first
    | exact ⟨(eqi_ptr hu D).1 _, .inl ⟨_,rfl⟩⟩
    | exact ⟨(eqi_ptr hu D).2 _, .inl ⟨_,rfl⟩⟩
    | exact ⟨(eqi_slice hu D).1 _ _ _, .inr (.inl ⟨_,_,_,rfl⟩)⟩
    | exact ⟨(eqi_slice hu D).2 _ _ _, .inr (.inl ⟨_,_,_,rfl⟩)⟩
    | exact ⟨(eqi_map hu D).1 _, .inr (.inr (.inl ⟨_,rfl⟩))⟩
    | exact ⟨(eqi_map hu D).2 _, .inr (.inr (.inl ⟨_,rfl⟩))⟩
    | exact ⟨(eqi_func hu D).1, .inr (.inr (.inr (.inl rfl)))⟩
    | exact ⟨(eqi_func hu D).2.1 _ _ _, .inr (.inr (.inr (.inl rfl)))⟩
    | exact ⟨(eqi_func hu D).2.2 _ _ _, .inr (.inr (.inr (.inr ⟨_,_,_,rfl⟩)))⟩
theorem RefV.plain {vx:Value} (h:RefV vx):(∀ q n,vx ≠ .int q n) /\ (∀ s,vx ≠ .string s) /\ (∀ s n,vx ≠ .float s n) /\ (∀ s n m,vx ≠ .complex s n m) /\ (∀ c,vx ≠ .agg c) /\ vx ≠ .nilIface:=by
 rcases h with ⟨b,rfl⟩ | ⟨b,n,c,rfl⟩ | ⟨b,rfl⟩ | rfl | ⟨f,a,b,rfl⟩ <;>
  exact ⟨by (intro _ _ e; cases e),by (intro _ e; cases e),by (intro _ _ e; cases e),by (intro _ _ _ e; cases e),by (intro _ e; cases e),by (intro e; cases e)⟩
theorem binOp_eql_of {t : TypeId} {vx vy : Value} {r : Bool} (he' : (Op.equalIn (9999 + 1) t vx vy).run P w = .ok r w) (h1 : ∀ q n, vx ≠ .int q n) (h2 : ∀ s, vx ≠ .string s) (h3 : ∀ s n, vx ≠ .float s n) (h4 : ∀ s n m, vx ≠ .complex s n m) :
  (binOp .eql t vx vy).run P w = .ok (.bool r) w /\ (binOp .neq t vx vy).run P w = .ok (.bool (!r)) w:=by
 have he:(Op.equal t vx vy).run P w = .ok r w:=he'
 cases vx <;> first
  | exact absurd rfl (h1 _ _)
  | exact absurd rfl (h2 _)
  | exact absurd rfl (h3 _ _)
  | exact absurd rfl (h4 _ _ _)
  | exact ⟨eql_run he,neq_run he⟩
theorem eqv_run {e : EqK} {t : TypeId} {x y : AV} {vx vy : Value} {r : Bool} {ox oy : Operand} {op : BinOp} (he : eqK P t = e) (hx : VR ρ x vx) (hy : VR ρ y vy) (hr : eqv e x y = some r) :
  (eqGuard op t ox oy vx vy).run P w = .ok () w /\ (binOp .eql t vx vy).run P w = .ok (.bool r) w /\ (binOp .neq t vx vy).run P w = .ok (.bool (!r)) w:=by
 cases e with
 | no => simp [eqv] at hr
 | bool =>
  cases x <;> simp only [eqv,reduceCtorEq] at hr
  cases y <;> simp only [reduceCtorEq,Option.some.injEq] at hr
  subst hr
  cases hx; cases hy
  have hu:P.underlying t = some .bool:=by
   unfold eqK at he
   split at he <;> first | assumption | (cases he; done) | skip
   all_goals (unfold eqK.flatE at he; split at he <;> first | (split at he <;> cases he) | cases he)
  refine ⟨eqGuard_plain (by rintro ⟨_,_,e,_⟩; cases e) (by rintro ⟨e,_⟩; cases e),?_⟩
  refine binOp_eql_of ?_ (by intro _ _ e; cases e) (by intro _ e; cases e) (by intro _ _ e; cases e) (by intro _ _ _ e; cases e)
  exact run_equalIn_bool' w 9999 t _ _ hu
 | flat ks =>
  cases x <;> simp only [eqv,reduceCtorEq] at hr
  cases y <;> simp only [reduceCtorEq] at hr
  split at hr
  ·rename_i hlen
   cases hx with | agg hx => cases hy with | agg hy =>
   have hE:eqK.flatE P t = .flat ks /\ aggT P t = some true:=by
    unfold eqK at he; unfold aggT
    split at he <;> first | (cases he; done) | (rename_i hu; rw [hu]; exact ⟨he,rfl⟩)
   obtain ⟨hE,hag⟩:=hE
   unfold eqK.flatE at hE
   cases hf:flatT P 5 t with
   | none => rw [hf] at hE; cases hE
   | some ks' =>
    rw [hf] at hE
    simp only at hE
    split at hE
    ·rename_i hp
     cases hE
     refine ⟨run_eqGuard_agg w op t ox oy _ _ hp.2,?_⟩
     refine binOp_eql_of ?_ (by intro _ _ e; cases e) (by intro _ e; cases e) (by intro _ _ e; cases e) (by intro _ _ _ e; cases e)
     have:=flat_run 5 t ks (9999 + 1) _ _ _ _ r w hf hp.1 (by omega) hx hy hlen.1 hlen.2 hr
     simpa only [valOf,hag,if_true] using this
    ·cases hE
  ·cases hr
 | ref k =>
  obtain ⟨h1,h2⟩:=eqRef_run (w:=w) 9999 he hx hy (by simpa [eqv] using hr)
  obtain ⟨p1,p2,p3,p4,p5,p6⟩:=h2.plain
  exact ⟨eqGuard_plain (by rintro ⟨_,_,e,_⟩; exact p5 _ e) (fun e => p6 e.1),binOp_eql_of h1 p1 p2 p3 p4⟩
theorem bin_run {op : BinOp} {t : TypeId} {x y av : AV} {vx vy : Value} {ox oy : Operand} (hx : VR ρ x vx) (hy : VR ρ y vy) (hb : bin op (eqK P t) x y = some av) :
  ∃ v,(eqGuard op t ox oy vx vy).run P w = .ok () w /\ (binOp op t vx vy).run P w = .ok v w /\ VR ρ av v:=by
 have hii:∀ {k k':IntKind} {n n':Int},(eqGuard op t ox oy (.int k n) (.int k' n')).run P w = .ok () w:=eqGuard_plain (by rintro ⟨_,_,e,_⟩; cases e) (by rintro ⟨e,_⟩; cases e)
 have hss:∀ {s s':ByteArray},(eqGuard op t ox oy (.string s) (.string s')).run P w = .ok () w:=eqGuard_plain (by rintro ⟨_,_,e,_⟩; cases e) (by rintro ⟨e,_⟩; cases e)
 have hstr : ∀ {l l' : List Nat} {q : BinOp}, x = .str l -> y = .str l' -> q = op -> sbin q l l' = some av -> (∀ s s', binOp q t (.string s) (.string s') = Op.stringOp q s s') ->
   ∃ v,(eqGuard op t ox oy vx vy).run P w = .ok () w /\ (binOp op t vx vy).run P w = .ok v w /\ VR ρ av v:=by
  intro l l' q e1 e2 e3 e4 e5
  subst e1; subst e2; subst e3
  cases hx with | str h1 => cases hy with | str h2 =>
  subst h1; subst h2
  obtain ⟨v,hv,hr⟩:=sbin_run (P:=P) (w:=w) e4
  exact ⟨v,hss,by rw [e5]; exact hv,hr ρ⟩
 have harith : ∀ {f : Int -> Int -> Int} {q : BinOp}, q = op -> arith f x y = some av -> (∀ k m n, binOp q t (.int k m) (.int k n) = pure (.int k (k.wrap (f m n)))) ->
   ∃ v,(eqGuard op t ox oy vx vy).run P w = .ok () w /\ (binOp op t vx vy).run P w = .ok v w /\ VR ρ av v:=by
  intro f q e3 hb2 e5
  subst e3
  obtain ⟨k,m,n,rfl,rfl,rfl⟩:=arith_some hb2
  cases hx; cases hy
  exact ⟨_,hii,by rw [e5]; rfl, .int _ _⟩
 have hcmp : ∀ {f : Int -> Int -> Bool} {q : BinOp}, q = op -> icmp f x y = some av -> (∀ k m n, binOp q t (.int k m) (.int k n) = pure (.bool (f m n))) ->
   ∃ v,(eqGuard op t ox oy vx vy).run P w = .ok () w /\ (binOp op t vx vy).run P w = .ok v w /\ VR ρ av v:=by
  intro f q e3 hb2 e5
  subst e3
  obtain ⟨k,m,n,rfl,rfl,rfl⟩:=icmp_some hb2
  cases hx; cases hy
  exact ⟨_,hii,by rw [e5]; rfl, .bool _⟩
 have hbits : ∀ {q : BinOp}, q = op -> ibits2 q x y = some av -> (∀ k m n, binOp q t (.int k m) (.int k n) = Op.intBits q k m n) ->
   ∃ v,(eqGuard op t ox oy vx vy).run P w = .ok () w /\ (binOp op t vx vy).run P w = .ok v w /\ VR ρ av v:=by
  intro q e3 hb2 e5
  subst e3
  obtain ⟨k,m,n,rfl,rfl,hb3⟩:=ibits2_some hb2
  cases hx; cases hy
  obtain ⟨v,hv,hr⟩:=ibits_run (P:=P) (w:=w) hb3
  exact ⟨v,hii,by rw [e5]; exact hv,hr ρ⟩
 cases op with
 | add =>
  simp only [bin] at hb
  split at hb
  ·exact hstr rfl rfl rfl hb fun _ _ => rfl
  ·exact harith rfl hb fun k m n => by simp [binOp,Op.intArith]
 | sub => exact harith rfl hb fun k m n => by simp [binOp,Op.intArith]
 | mul => exact harith rfl hb fun k m n => by simp [binOp,Op.intArith]
 | quo =>
  simp only [bin] at hb
  split at hb
  case h_2 => cases hb
  rename_i k m k' n
  cases hx; cases hy
  rw [keq_eq,ieq_eq] at hb
  by_cases e:k = k'
  ·subst e; simp only [decide_true,cond_true] at hb
   by_cases hn:n = 0
   ·simp [hn] at hb
   ·simp only [hn,decide_false,cond_false,Option.some.injEq] at hb; subst hb
    rw [awrap_eq]
    exact ⟨_,hii,by simp [binOp,Op.intDiv,hn], .int _ _⟩
  ·simp [e] at hb
 | rem =>
  simp only [bin] at hb
  split at hb
  case h_2 => cases hb
  rename_i k m k' n
  cases hx; cases hy
  rw [keq_eq,ieq_eq] at hb
  by_cases e:k = k'
  ·subst e; simp only [decide_true,cond_true] at hb
   by_cases hn:n = 0
   ·simp [hn] at hb
   ·simp only [hn,decide_false,cond_false,Option.some.injEq] at hb; subst hb
    exact ⟨_,hii,by simp [binOp,Op.intDiv,hn], .int _ _⟩
  ·simp [e] at hb
 | and => exact hbits rfl hb fun k m n => by simp [binOp]
 | or => exact hbits rfl hb fun k m n => by simp [binOp]
 | xor => exact hbits rfl hb fun k m n => by simp [binOp]
 | andNot => exact hbits rfl hb fun k m n => by simp [binOp]
 | shl =>
  simp only [bin] at hb
  split at hb
  case h_2 => cases hb
  rename_i k m k' n
  cases hx; cases hy
  obtain ⟨v,hv,hr⟩:=ishift_run (P:=P) (w:=w) (yk:=k') hb
  exact ⟨v,hii,by simpa [binOp] using hv,hr ρ⟩
 | shr =>
  simp only [bin] at hb
  split at hb
  case h_2 => cases hb
  rename_i k m k' n
  cases hx; cases hy
  obtain ⟨v,hv,hr⟩:=ishift_run (P:=P) (w:=w) (yk:=k') hb
  exact ⟨v,hii,by simpa [binOp] using hv,hr ρ⟩
 | eql =>
  simp only [bin] at hb
  split at hb
  ·rename_i k m k' n
   cases hx; cases hy
   rw [keq_eq,ieq_beq] at hb
   by_cases e:k = k'
   ·subst e; simp only [decide_true,cond_true,Option.some.injEq] at hb; subst hb
    exact ⟨_,hii,by simp [binOp,Op.intCmp], .bool _⟩
   ·simp [e] at hb
  ·rename_i l l'
   exact hstr rfl rfl rfl (by simpa [sbin] using hb) fun _ _ => rfl
  ·cases hr:eqv (eqK P t) x y with
   | none => rw [hr] at hb; cases hb
   | some r =>
    rw [hr] at hb; cases hb
    obtain ⟨h1,h2,_⟩:=eqv_run (w:=w) (ox:=ox) (oy:=oy) (op := .eql) rfl hx hy hr
    exact ⟨_,h1,h2, .bool _⟩
 | neq =>
  simp only [bin] at hb
  split at hb
  ·rename_i k m k' n
   cases hx; cases hy
   rw [keq_eq,ieq_beq] at hb
   by_cases e:k = k'
   ·subst e; simp only [decide_true,cond_true,Option.some.injEq] at hb; subst hb
    exact ⟨_,hii,by simp [binOp,Op.intCmp,bne], .bool _⟩
   ·simp [e] at hb
  ·rename_i l l'
   exact hstr rfl rfl rfl (by simpa [sbin] using hb) fun _ _ => rfl
  ·cases hr:eqv (eqK P t) x y with
   | none => rw [hr] at hb; cases hb
   | some r =>
    rw [hr] at hb; cases hb
    obtain ⟨h1,_,h2⟩:=eqv_run (w:=w) (ox:=ox) (oy:=oy) (op := .neq) rfl hx hy hr
    exact ⟨_,h1,h2, .bool _⟩
 | lss =>
  simp only [bin] at hb
  split at hb
  ·exact hstr rfl rfl rfl hb fun _ _ => rfl
  ·exact hcmp rfl hb fun k m n => by simp [binOp,Op.intCmp,ilt_eq]
 | leq =>
  simp only [bin] at hb
  split at hb
  ·exact hstr rfl rfl rfl hb fun _ _ => rfl
  ·exact hcmp rfl hb fun k m n => by simp [binOp,Op.intCmp,not_ilt]
 | gtr =>
  simp only [bin] at hb
  split at hb
  ·exact hstr rfl rfl rfl hb fun _ _ => rfl
  ·exact hcmp rfl hb fun k m n => by simp [binOp,Op.intCmp,ilt_eq]
 | geq =>
  simp only [bin] at hb
  split at hb
  ·exact hstr rfl rfl rfl hb fun _ _ => rfl
  ·exact hcmp rfl hb fun k m n => by simp [binOp,Op.intCmp,not_ilt]
end
end Go.AM
namespace Go.AM
open Go
section
variable {P:Program} {ρ:Rho} {h:AHeap} {B:Nat} {w:World} {tm:List AV} {a:Act}
theorem fills_run (ht : TR ρ tm a.tmps) {place : Nat -> Option (Nat × Nat)} : ∀ (ps : List (Nat × Operand)) (l : List (Nat × Nat × AOpd)) (z c : List AV) (zs : Array Value),
  (∀ (k:Nat) i x,ps[k]? = some (i,x) -> ∃ off n ax,l[k]? = some (off,n,ax) /\ place i = some (off,n) /\ trOpd x = some ax) -> l.length = ps.length -> VRs ρ z zs.toList -> fills z l tm = some c ->
  ∃ cs,Instr.fill place zs (ps.map fun p => (p.1,a.eval p.2)) = some cs /\ VRs ρ c cs.toList
 | [],l,z,c,zs,_,hl,hz,hf => by
  obtain rfl:=List.eq_nil_of_length_eq_zero (by simpa using hl)
  simp [fills] at hf; subst hf
  exact ⟨zs,rfl,hz⟩
 | (i,x) :: ps,l,z,c,zs,hp,hl,hz,hf => by
  obtain ⟨off,n,ax,e1,e2,e3⟩:=hp 0 i x rfl
  cases l with
  | nil => simp at e1
  | cons q l =>
   simp at e1; subst e1
   simp only [fills] at hf
   split at hf
   ·rename_i hlen
    have hv:=opd_sound ht e3
    have hcells:=hv.cells
    cases hlay:lay z off (ev tm ax).cells with
    | none => rw [hlay] at hf; cases hf
    | some z' =>
     rw [hlay] at hf
     obtain ⟨g1,g2,g3⟩:=lay_spec hlay
     have hzl:=VRs.length hz
     have hcl:=VRs.length hcells
     have hfold:∀ (us:List Value) (o:Nat) (cc:Array Value),(us.zipIdx o).foldl (fun cs (p:Value × Nat) => cs.setIfInBounds (off + p.2) p.1) cc = over cc (off + o) us:=by
      intro us
      induction us with
      | nil => intro o cc; rfl
      | cons u us ih => intro o cc; simp only [List.zipIdx_cons,List.foldl_cons,over]; rw [ih]; rfl
     have harr:((a.eval x).cells.zipIdx.foldl (fun cs (p:Value × Nat) => cs.setIfInBounds (off + p.2) p.1) zs) = over zs off (a.eval x).cells.toList:=by
      rw [<- Array.foldl_toList,Array.toList_zipIdx]
      exact hfold _ 0 zs
     have hsz:(a.eval x).cells.size = n:=by rw [<- Array.length_toList, <- hcl]; exact hlen
     have hle:off + (a.eval x).cells.size <= zs.size:=by
      rw [<- Array.length_toList (xs:=zs), <- hzl,hsz]; rw [hlen] at g2; exact g2
     have hz':VRs ρ z' (over zs off (a.eval x).cells.toList).toList:=by
      refine VRs.of_get (by simp only [g1,Array.length_toList,over_size]; simpa using hzl) fun k p q hp hq => ?_
      rw [g3 k] at hp
      rw [Array.getElem?_toList,over_get _ _ _ _ (by simpa using hle)] at hq
      by_cases hk:off <= k /\ k < off + (ev tm ax).cells.length
      ·rw [if_pos hk] at hp
       rw [if_pos (by rw [<- hcl]; exact hk)] at hq
       obtain ⟨y,hy,hr⟩:=VRs.get hcells hp
       rw [hq] at hy; cases hy; exact hr
      ·rw [if_neg hk] at hp
       rw [if_neg (by rw [<- hcl]; exact hk)] at hq
       obtain ⟨y,hy,hr⟩:=VRs.get hz hp
       rw [Array.getElem?_toList,hq] at hy; cases hy; exact hr
     obtain ⟨cs,k1,k2⟩:=fills_run ht ps l z' c _ (fun k i' x' hk => by have:=hp (k + 1) i' x' (by simpa using hk); simpa using this) (by simpa using hl) hz' hf
     refine ⟨cs,?_,k2⟩
     simp only [List.map_cons,Instr.fill,e2]
     rw [if_neg (by simp only [ne_eq,Bool.or_eq_true,decide_eq_true_eq,not_or,Classical.not_not]; exact ⟨hsz,by omega⟩)]
     rw [harr]; exact k1
   ·cases hf
theorem trParts_spec:∀ {ps:List (Nat × Operand)} {l:List (Nat × AOpd)},trParts ps = some l -> l.length = ps.length /\ ∀ (k:Nat) i x,ps[k]? = some (i,x) -> ∃ ax,l[k]? = some (i,ax) /\ trOpd x = some ax
 | [],l,h => by simp [trParts] at h; subst h; simp
 | (i,x) :: ps,l,h => by
  simp only [trParts] at h
  cases h1:trOpd x with
  | none => rw [h1] at h; cases h
  | some ax =>
   cases h2:trParts ps with
   | none => rw [h1,h2] at h; cases h
   | some r =>
    rw [h1,h2] at h; cases h
    obtain ⟨g1,g2⟩:=trParts_spec h2
    refine ⟨by simp [g1],fun k j y hk => ?_⟩
    cases k with
    | zero => simp at hk; obtain ⟨rfl,rfl⟩:=hk; exact ⟨ax,rfl,h1⟩
    | succ k => simpa using g2 k j y (by simpa using hk)
theorem partsS_spec {fs : Array Field} : ∀ {l : List (Nat × AOpd)} {m : List (Nat × Nat × AOpd)}, partsS P fs l = some m -> m.length = l.length /\
  ∀ (k:Nat) i x,l[k]? = some (i,x) -> ∃ f n,fs[i]? = some f /\ sizeT P f.type = some n /\ m[k]? = some (f.offset,n,x)
 | [],m,h => by simp [partsS] at h; subst h; simp
 | (i,x) :: l,m,h => by
  simp only [partsS] at h
  cases h1:fs[i]? with
  | none => rw [h1] at h; cases h
  | some f =>
   rw [h1] at h
   simp only at h
   cases h2:sizeT P f.type with
   | none => rw [h2] at h; cases h
   | some n =>
    cases h3:partsS P fs l with
    | none => rw [h2,h3] at h; cases h
    | some r =>
     rw [h2,h3] at h; cases h
     obtain ⟨g1,g2⟩:=partsS_spec h3
     refine ⟨by simp [g1],fun k j y hk => ?_⟩
     cases k with
     | zero => simp at hk; obtain ⟨rfl,rfl⟩:=hk; exact ⟨f,n,h1,h2,rfl⟩
     | succ k => simpa using g2 k j y (by simpa using hk)
theorem mapM_places (fs : Array Field) (hall : ∀ f ∈ fs, ∃ i, P.info? f.type = some i) :
  (fs.mapM fun f => do pure (f.offset, <- sizeOf f.type):Sem (Array (Nat × Nat))).run P w = .ok (fs.map fun f => (f.offset,P.cellsOf f.type)) w:=by
 rw [Array.mapM_eq_mapM_toList]
 simp only [Sem.run_map]
 have:∀ l:List Field,(∀ f ∈ l, ∃ i,P.info? f.type = some i) -> (l.mapM fun f => do pure (f.offset, <- sizeOf f.type):Sem (List (Nat × Nat))).run P w = .ok (l.map fun f => (f.offset,P.cellsOf f.type)) w:=by
  intro l
  induction l with
  | nil => intro _; simp
  | cons f l ih =>
   intro hl
   obtain ⟨i,hi⟩:=hl f (by simp)
   simp only [List.mapM_cons,Sem.run_bind,run_sizeOf w hi,Result.andThen_ok,Sem.run_pure,ih (fun g hg => hl g (by simp [hg])),List.map_cons]
 rw [this fs.toList (fun f hf => hall f (by simpa using hf))]
 simp only [Result.andThen_ok]
 congr 1
 apply Array.ext'
 simp
theorem maxs_run:∀ {l:List AV} {vs:List Value} {x av:AV} {vx:Value},VR ρ x vx -> VRs ρ l vs -> maxs x l = some av -> ∃ v,(vs.foldlM Builtin.max2 vx:Sem Value).run P w = .ok v w /\ VR ρ av v
 | [],vs,x,av,vx,hx,hl,hm => by
  simp [maxs] at hm; subst hm; cases hl; exact ⟨vx,rfl,hx⟩
 | y :: l,vs,x,av,vx,hx,hl,hm => by
  cases hl with
  | cons hy hl =>
   unfold maxs at hm
   split at hm
   ·rename_i heq; cases heq
   ·rename_i k m k' n r heq
    cases heq
    split at hm
    ·rename_i e; subst e
     cases hx; cases hy
     obtain ⟨v,hv,hr⟩:=maxs_run (vx := .int k (if n > m then n else m)) (.int _ _) hl hm
     exact ⟨v,by simpa [List.foldlM_cons,Builtin.max2] using hv,hr⟩
    ·cases hm
   ·cases hm
theorem mins_run:∀ {l:List AV} {vs:List Value} {x av:AV} {vx:Value},VR ρ x vx -> VRs ρ l vs -> mins x l = some av -> ∃ v,(vs.foldlM Builtin.min2 vx:Sem Value).run P w = .ok v w /\ VR ρ av v
 | [],vs,x,av,vx,hx,hl,hm => by
  simp [mins] at hm; subst hm; cases hl; exact ⟨vx,rfl,hx⟩
 | y :: l,vs,x,av,vx,hx,hl,hm => by
  cases hl with
  | cons hy hl =>
   unfold mins at hm
   split at hm
   ·rename_i heq; cases heq
   ·rename_i k m k' n r heq
    cases heq
    split at hm
    ·rename_i e; subst e
     cases hx; cases hy
     obtain ⟨v,hv,hr⟩:=mins_run (vx := .int k (if n < m then n else m)) (.int _ _) hl hm
     exact ⟨v,by simpa [List.foldlM_cons,Builtin.min2] using hv,hr⟩
    ·cases hm
   ·cases hm
abbrev QS (P:Program) (ρ:Rho) (w:World) (a:Act) (o:Oper) (av:AV):Prop:=∃ v,(execOp a.eval o).run P w = .ok (.value v) w /\ VR ρ av v
theorem q_move (ht:TR ρ tm a.tmps) {o:Oper} {x:Operand} (ho:o.op = .move x \/ o.op = .assign x) {ax:AOpd} (hx:trOpd x = some ax):QS P ρ w a o (ev tm ax):=by
 rcases ho with ho | ho <;> exact ⟨a.eval x,by simp [execOp,ho],opd_sound ht hx⟩
theorem q_load (hs : Sim P ρ h B w) (ht : TR ρ tm a.tmps) {o : Oper} {t : TypeId} {x : Operand} (ho : o.op = .load t x) {n : Option Nat} {ax : AOpd} (hn : layT P t = some n) (hx : trOpd x = some ax) {av : AV}
  (he:evalQ (.load n ax) tm h = some av):QS P ρ w a o av:=by
 have hv:=opd_sound ht hx
 simp only [evalQ] at he
 cases hax:ev tm ax with
 | ptr i off =>
  rw [hax] at he hv
  simp only [cellsOf] at he
  cases hg:h.get i with
  | none => rw [hg] at he; cases he
  | some ob =>
   cases ob with
   | cells c r =>
    rw [hg] at he
    generalize hvx:a.eval x = vx at hv
    cases hv with
    | ptr hp =>
     obtain ⟨v,h1,h2⟩:=fit_run hs hg hp hn he
     exact ⟨v,by simp [execOp,ho,hvx,Instr.loadAt,Instr.sureAddr,h1],h2⟩
   | _ => rw [hg] at he; cases he
 | _ => rw [hax] at he; cases he
theorem q_bin (ht : TR ρ tm a.tmps) {o : Oper} {op : BinOp} {t t' : TypeId} {x y : Operand} (ho : o.op = .binOp op t x y t') {ax ay : AOpd} (hx : trOpd x = some ax) (hy : trOpd y = some ay) {av : AV}
  (he:bin op (eqK P t) (ev tm ax) (ev tm ay) = some av):QS P ρ w a o av:=by
 obtain ⟨v,h1,h2,h3⟩:=bin_run (w:=w) (ox:=x) (oy:=y) (opd_sound ht hx) (opd_sound ht hy) he
 exact ⟨v,by simp [execOp,ho,h1,h2],h3⟩
theorem q_un (ht:TR ρ tm a.tmps) {o:Oper} {op:UnOp} {t:TypeId} {x:Operand} (ho:o.op = .unOp op t x) {ax:AOpd} (hx:trOpd x = some ax) {av:AV} (he:un op (ev tm ax) = some av):QS P ρ w a o av:=by
 have hv:=opd_sound ht hx
 unfold un at he
 generalize hvx:a.eval x = vx at hv
 split at he
 ·rename_i k n heq
  rw [heq] at hv; cases hv
  cases he
  rw [awrap_eq]
  exact ⟨_,by simp [execOp,ho,hvx,Op.unary,Op.intArith], .int _ _⟩
 ·rename_i k n heq
  rw [heq] at hv; cases hv
  obtain ⟨v,h1,h2⟩:=ibits_run (P:=P) (w:=w) he
  have:(Op.intBits .xor k (if k.signed then -1 else k.max) n).run P w = (Op.intBits .xor k (-1) n).run P w:=by
   cases k <;> rfl
  exact ⟨v,by simp [execOp,ho,hvx,Op.unary,this,h1],h2 ρ⟩
 ·rename_i b heq
  rw [heq] at hv; cases hv
  cases he
  exact ⟨_,by simp [execOp,ho,hvx,Op.unary], .bool _⟩
 ·cases he
theorem q_slice (_hs : Sim P ρ h B w) {t e : TypeId} {sz : Nat} (hu : P.underlying t = some (.slice e)) (hsz : sizeT P e = some sz) {x av : AV} {vx : Value} (hv : VR ρ x vx) {lo hi mx : Option Int} {vlo vhi vmx : Option Value}
  (h1:∀ x,lo = some x -> ∃ k,vlo = some (.int k x)) (h1':lo = none -> vlo = none) (h2:∀ x,hi = some x -> ∃ k,vhi = some (.int k x)) (h2':hi = none -> vhi = none)
  (h3:∀ x,mx = some x -> ∃ k,vmx = some (.int k x)) (h3':mx = none -> vmx = none) (he:sl sz x lo hi mx = some av):∃ v,(Instr.slice t vx vlo vhi vmx).run P w = .ok v w /\ VR ρ av v:=by
 unfold sl at he
 split at he
 ·-- nil
  cases hv
  cases hb:bounds 0 0 lo hi mx with
  | none => rw [hb] at he; cases he
  | some q =>
   obtain ⟨l,hh,m⟩:=q
   rw [hb] at he; cases he
   obtain ⟨g1,g2,g3⟩:=bounds_le hb (Nat.le_refl _)
   have hr:=bounds_run (P:=P) (w:=w) (isSlice:=true) hb h1 h1' h2 h2' h3 h3'
   obtain rfl:m = 0:=by omega
   obtain rfl:hh = 0:=by omega
   obtain rfl:l = 0:=by omega
   exact ⟨.slice none 0 0,by simp [Instr.slice,run_underlying hu,hr,sizeT_run hsz], .nils⟩
 ·-- the capacity is known
  rename_i i off len c
  cases hb:bounds len c lo hi mx with
  | none => rw [hb] at he; cases he
  | some q =>
   obtain ⟨l,hh,m⟩:=q
   rw [hb] at he; cases he
   cases hv with
   | slx hp hc =>
    obtain ⟨g1,g2,g3⟩:=bounds_le hb hc
    have hr:=bounds_run (P:=P) (w:=w) (isSlice:=true) hb h1 h1' h2 h2' h3 h3'
    refine ⟨_,by simp only [Instr.slice,Sem.run_bind,run_underlying hu,Result.andThen_ok,hr,sizeT_run hsz,Sem.run_pure]; rfl,?_⟩
    by_cases e:m = l
    ·rw [if_pos e,if_pos e]; exact .slx hp (by omega)
    ·rw [if_neg e,if_neg e]
     simp only [Option.map_some,Addr.add_plain]
     rw [Nat.add_assoc]
     exact .slx hp (by omega)
 ·-- the capacity is what room there is
  rename_i i off len s
  split at he
  ·rename_i es; subst es
   split at he
   ·-- two indexes
    cases hb:bounds len len lo hi none with
    | none => rw [hb] at he; cases he
    | some q =>
     obtain ⟨l,hh,m⟩:=q
     rw [hb] at he; cases he
     obtain ⟨g1,g2,g3⟩:=bounds_le hb (Nat.le_refl _)
     cases hv with
     | slo hp hc hroom =>
      rename_i c p
      have hb':bounds len c lo hi none = some (l,hh,c):=by
       revert hb; unfold bounds; simp only []
       have last : ∀ h' : Nat, (match (match lo with | some l => if 0 <= l /\ l <= (h' : Int) then some l.toNat else none | none => some 0) with | none => none | some l => some (l, h', len)) = some (l, hh, m) ->
         (match (match lo with | some l => if 0 <= l /\ l <= (h':Int) then some l.toNat else none | none => some 0) with | none => none | some l => some (l,h',c)) = some (l,hh,c):=by
        intro h' hb
        cases hm:(match lo with | some l => if 0 <= l /\ l <= (h':Int) then some l.toNat else none | none => some 0) with
        | none => rw [hm] at hb; cases hb
        | some l' => rw [hm] at hb; simp only [Option.some.injEq,Prod.mk.injEq] at hb ⊢; exact ⟨hb.1,hb.2.1,trivial⟩
       cases hi with
       | none => simp only []; intro hb; exact last len hb
       | some y =>
        simp only []
        intro hb
        by_cases cy:0 <= y /\ y <= (len:Int)
        ·rw [if_pos cy] at hb; rw [if_pos (by omega)]
         exact last _ hb
        ·rw [if_neg cy] at hb; simp at hb
      have hr:=bounds_run (P:=P) (w:=w) (isSlice:=true) hb' h1 h1' h2 h2' h3 h3'
      refine ⟨_,by simp only [Instr.slice,Sem.run_bind,run_underlying hu,Result.andThen_ok,hr,sizeT_run hsz,Sem.run_pure]; rfl,?_⟩
      by_cases e:c = l
      ·rw [if_pos e]
       obtain rfl:hh = l:=by omega
       rw [Nat.sub_self,e,Nat.sub_self]
       exact .sle _ hp (by rw [<- hroom,e])
      ·rw [if_neg e]
       simp only [Option.map_some,Addr.add_plain]
       rw [Nat.add_assoc]
       refine .slo hp (by omega) ?_
       rw [<- hroom,Nat.add_assoc, <- Nat.add_mul]; congr 2; omega
     | sle ad hp hroom =>
      have hr:=bounds_run (P:=P) (w:=w) (isSlice:=true) hb h1 h1' h2 h2' h3 h3'
      obtain rfl:m = 0:=by omega
      obtain rfl:hh = 0:=by omega
      obtain rfl:l = 0:=by omega
      refine ⟨_,by simp only [Instr.slice,Sem.run_bind,run_underlying hu,Result.andThen_ok,hr,sizeT_run hsz,Sem.run_pure]; rfl,?_⟩
      simp only [if_true,Nat.sub_self,Nat.zero_mul,Nat.add_zero]
      exact .sle _ hp hroom
   ·-- three
    rename_i z
    split at he
    ·cases he
    rename_i hl0
    cases hb:bounds len len lo hi (some z) with
    | none => rw [hb] at he; cases he
    | some q =>
     obtain ⟨l,hh,m⟩:=q
     rw [hb] at he; cases he
     obtain ⟨g1,g2,g3⟩:=bounds_le hb (Nat.le_refl _)
     cases hv with
     | slo hp hc hroom =>
      rename_i c p
      have hb':bounds len c lo hi (some z) = some (l,hh,m):=by
       revert hb; unfold bounds; simp only []
       intro hb
       by_cases cz:0 <= z /\ z <= (len:Int)
       ·rw [if_pos cz] at hb; rw [if_pos (by omega)]; exact hb
       ·rw [if_neg cz] at hb; simp at hb
      have hr:=bounds_run (P:=P) (w:=w) (isSlice:=true) hb' h1 h1' h2 h2' h3 h3'
      refine ⟨_,by simp only [Instr.slice,Sem.run_bind,run_underlying hu,Result.andThen_ok,hr,sizeT_run hsz,Sem.run_pure]; rfl,?_⟩
      by_cases e:m = l
      ·rw [if_pos e,if_pos e]; exact .slx hp (by omega)
      ·rw [if_neg e,if_neg e]
       simp only [Option.map_some,Addr.add_plain]
       rw [Nat.add_assoc]
       exact .slx hp (by omega)
     | sle ad hp hroom => exact absurd rfl hl0
  ·cases he
 ·cases he
end
end Go.AM
namespace Go.AM
open Go
section
variable {P:Program} {ρ:Rho} {h:AHeap} {B:Nat} {w:World} {tm:List AV} {a:Act}
theorem bad_eval (tm:List AV) (h:AHeap):evalQ bad tm h = none:=rfl
theorem q_sliceA {t e : TypeId} {n sz : Nat} (hsz : sizeT P e = some sz) {i off l hh m : Nat} {p : Place} (hp : ρ i = some p) {lo hi mx : Option Int} {vlo vhi vmx : Option Value}
  (h1:∀ x,lo = some x -> ∃ k,vlo = some (.int k x)) (h1':lo = none -> vlo = none) (h2:∀ x,hi = some x -> ∃ k,vhi = some (.int k x)) (h2':hi = none -> vhi = none)
  (h3:∀ x,mx = some x -> ∃ k,vmx = some (.int k x)) (h3':mx = none -> vmx = none) (hb:bounds n n lo hi mx = some (l,hh,m))
  (hu:P.underlying t = some (.array n e) \/ ∃ b,P.underlying t = some (.pointer b) /\ P.underlying b = some (.array n e)) :
  ∃ v,(Instr.sliceAt t (.pointer (some ⟨p.blk,p.base + off,none⟩)) vlo vhi vmx).run P w = .ok v w /\ VR ρ (.slice i (if m = l then off else off + l * sz) (hh - l) (.exact (m - l))) v:=by
 obtain ⟨g1,g2,g3⟩:=bounds_le hb (Nat.le_refl _)
 have hr:=bounds_run (P:=P) (w:=w) (isSlice:=false) hb h1 h1' h2 h2' h3 h3'
 have fin:VR ρ (.slice i (if m = l then off else off + l * sz) (hh - l) (.exact (m - l))) (.slice (some (if m = l then ⟨p.blk,p.base + off,none⟩ else (⟨p.blk,p.base + off,none⟩:Addr).add (l * sz))) (hh - l) (m - l)):=by
  by_cases e:m = l
  ·rw [if_pos e,if_pos e]; exact .slx hp (by omega)
  ·rw [if_neg e,if_neg e,Addr.add_plain,Nat.add_assoc]; exact .slx hp (by omega)
 rcases hu with hu | ⟨b,hu,hub⟩
 ·exact ⟨_,by simp [Instr.sliceAt,run_underlying hu,Instr.sureAddr,hr,sizeT_run hsz],fin⟩
 ·exact ⟨_,by simp [Instr.sliceAt,run_underlying hu,Instr.slice,asAddr,run_underlying hub,hr,sizeT_run hsz],fin⟩
theorem q_toStr (hs:Sim P ρ h B w) {ax:AOpd} {vx:Value} (hv:VR ρ (ev tm ax) vx) {av:AV} (he:evalQ (.toStr ax) tm h = some av):∃ v,(Conv.bytesToString vx).run P w = .ok v w /\ VR ρ av v:=by
 simp only [evalQ] at he
 cases hx:ev tm ax with
 | nils => rw [hx] at hv he; cases hv; cases he; exact ⟨_,rfl, .str rfl⟩
 | slice i o n cp =>
  rw [hx] at hv he
  simp only [cellsOf] at he
  cases hg:h.get i with
  | none => rw [hg] at he; cases he
  | some ob =>
   cases ob with
   | cells c r =>
    rw [hg] at he
    simp only at he
    cases hc:cut c o n with
    | none => rw [hc] at he; cases he
    | some rr =>
     rw [hc] at he
     simp only at he
     cases hbs:bytesOf rr with
     | none => rw [hbs] at he; cases he
     | some l =>
      rw [hbs] at he; cases he
      have main:∀ (p:Place), ρ i = some p -> ∀ c', ∃ s:ByteArray,(Conv.bytesToString (.slice (some ⟨p.blk,p.base + o,none⟩) n c')).run P w = .ok (.string s) w /\ s.data.toList.map (·.toNat) = l:=by
       intro p hp c'
       obtain ⟨vs,k1,k2,k3⟩:=read_cut hs hg hp hc
       obtain ⟨ns,rfl,rfl⟩:=bytes_run k2 hbs
       have hl:=run_loadCells_of (P:=P) (w:=w) k3
       rw [k1] at hl
       refine ⟨ns.foldl (fun r n => r.push (UInt8.ofNat n.toNat)) .empty,?_,by rw [foldl_push]; simp⟩
       simp only [Conv.bytesToString,Sem.run_bind,hl,Result.andThen,List.forIn_toArray]
       rw [run_forIn_bytes _ (by intro n r; simp [Sem.run_pure])]
       rfl
      cases hv with
      | slx hp hle => obtain ⟨s,h,e⟩:=main _ hp _; exact ⟨_,h, .str e⟩
      | slo hp hle hr => obtain ⟨s,h,e⟩:=main _ hp _; exact ⟨_,h, .str e⟩
      | sle ad hp hr =>
       obtain ⟨q1,q2⟩:=cut_eq hc
       simp at q2; subst q2
       simp [bytesOf] at hbs; subst hbs
       exact ⟨.string .empty,by simp [Conv.bytesToString,loadCells,loadCellsFrom,Sem.run_pure], .str rfl⟩
   | _ => rw [hg] at he; cases he
 | _ => rw [hx] at he; cases he
theorem sameNow_run {kt : TypeId} {q : Nat} (hk : keyT P kt = some (.one q)) {k k' : AV} {vk vk' : Value} (hv : VR ρ k vk) (hv' : VR ρ k' vk') {b : Bool} (he : eqCell q k k' = some b) :
  ∃ dsc,P.underlying kt = some dsc /\ Instr.sameNow dsc vk vk' = some b:=by
 unfold keyT at hk
 cases hu:P.underlying kt with
 | none => rw [hu] at hk; cases hk
 | some dsc =>
  rw [hu] at hk
  have harr:∀ n e,dsc ≠ .array n e:=by
   rintro n e rfl
   simp only at hk
   split at hk <;> first | (cases hk; done) | skip
   split at hk <;> cases hk
  refine ⟨dsc,rfl,?_⟩
  unfold eqCell at he
  split at he
  ·rename_i k1 n1 k2 n2
   cases hv; cases hv'
   cases hq:Nat.beq q 1 with
   | false => simp [hq] at he
   | true =>
    obtain rfl:=Nat.eq_of_beq_eq_true hq
    rw [keq_eq,ieq_beq] at he
    by_cases e:k1 = k2
    ·subst e; simp at he; subst he
     cases dsc <;> first | exact absurd rfl (harr _ _) | simp at hk
     simp [Instr.sameNow]
    ·simp [e] at he
  ·rename_i b1 b2
   cases hv; cases hv'
   cases hq:Nat.beq q 0 with
   | false => simp [hq] at he
   | true =>
    obtain rfl:=Nat.eq_of_beq_eq_true hq
    simp at he; subst he
    cases dsc <;> first | exact absurd rfl (harr _ _) | simp at hk
    simp [Instr.sameNow]
  ·rename_i s1 s2
   cases hv with | str h1 => cases hv' with | str h2 =>
   subst h1; subst h2
   cases hq:Nat.beq q 2 with
   | false => simp [hq] at he
   | true =>
    obtain rfl:=Nat.eq_of_beq_eq_true hq
    simp only [Nat.beq_refl,cond_true,Option.some.injEq] at he; subst he
    cases dsc <;> first | exact absurd rfl (harr _ _) | simp at hk
    rw [strs_eq, <- beq_toListBytes]
    rfl
  ·cases he
theorem findKey_run {q : Nat} {kt : TypeId} (hk : keyT P kt = some (.one q)) {k : AV} {vk : Value} (hv : VR ρ k vk) : ∀ {es : List (AV × AV)} {ms : List MapEntry} {n : Nat} {r : Option (Nat × AV)}, EsR ρ es ms -> findKey (.one q) k es n = some r ->
  ∃ dsc r',P.underlying kt = some dsc /\ Instr.findNow dsc vk ms n = some r' /\
   ((r = none /\ r' = none) \/ ∃ i av v,r = some (i,av) /\ r' = some (i,v) /\ VR ρ av v)
 | [],ms,n,r,he,hf => by
  cases he
  unfold keyT at hk
  cases hu:P.underlying kt with
  | none => rw [hu] at hk; cases hk
  | some dsc => simp [findKey] at hf; subst hf; exact ⟨dsc,none,rfl,rfl, .inl ⟨rfl,rfl⟩⟩
 | (k',v') :: es,ms,n,r,he,hf => by
  cases he with
  | cons hk' hv' hs =>
   simp only [findKey,keyEq] at hf
   cases hq:eqCell q k k' with
   | none => rw [hq] at hf; cases hf
   | some b =>
    rw [hq] at hf
    obtain ⟨dsc,hu,hsame⟩:=sameNow_run hk hv hk' hq
    cases b with
    | true =>
     simp at hf; subst hf
     exact ⟨dsc,_,hu,by simp [Instr.findNow,hsame], .inr ⟨n,v',_,rfl,rfl,hv'⟩⟩
    | false =>
     simp only at hf
     obtain ⟨dsc',r',h1,h2,h3⟩:=findKey_run hk hv hs hf
     rw [hu] at h1; cases h1
     exact ⟨dsc,r',hu,by simp [Instr.findNow,hsame,h2],h3⟩
theorem checkKey_run {kt:TypeId} {q:Nat} (hk:keyT P kt = some (.one q)) (b:Bool) (v:Value):(Instr.checkKey b 10000 kt v).run P w = .ok () w:=by
 unfold keyT at hk
 cases hu:P.underlying kt with
 | none => rw [hu] at hk; cases hk
 | some dsc =>
  rw [hu] at hk
  have harr:∀ n e,dsc ≠ .array n e:=by
   rintro n e rfl
   simp only at hk
   split at hk <;> first | (cases hk; done) | skip
   split at hk <;> cases hk
  have:∀ D,(Instr.checkKey b (D + 1) kt v).run P w = .ok () w:=by
   intro D
   cases dsc <;> first | exact absurd rfl (harr _ _) | simp at hk <;> (rw [Instr.checkKey]; simp only [Sem.run_bind,run_underlying hu,Result.andThen_ok,Sem.run_pure])
  exact this 9999
theorem keyT_flat {kt:TypeId} {ks:List Nat} (hk:keyT P kt = some (.flat ks)):∃ n e k,P.underlying kt = some (.array n e) /\ P.underlying e = some (.int k) /\ flatT P 5 kt = some ks /\ packedT P 5 kt = true:=by
 unfold keyT at hk
 split at hk <;> first | (cases hk; done) | skip
 rename_i n e hu
 split at hk <;> first | (cases hk; done) | skip
 rename_i k ks' hk1 hk2
 split at hk <;> cases hk
 rename_i hp
 exact ⟨n,e,k,hu,hk1,hk2,hp⟩
theorem keyT_desc {kt:TypeId} {ks:KeyK} (hk:keyT P kt = some ks):∃ dsc,P.underlying kt = some dsc:=by
 unfold keyT at hk
 cases hu':P.underlying kt with
 | none => rw [hu'] at hk; cases hk
 | some d => exact ⟨d,rfl⟩
theorem flat_key {kt : TypeId} {ks : List Nat} (hk : keyT P kt = some (.flat ks)) {k : AV} (hok : keyOK (.flat ks) k = true) {v : Value} (hv : VR ρ k v) :
  ∃ n e q vs cs,P.underlying kt = some (.array n e) /\ P.underlying e = some (.int q) /\ sizeT P e = some 1 /\ aggT P e = some false /\ ks.length = n /\ k = .agg cs /\ v = .agg vs /\ VRs ρ cs vs.toList /\ cs.length = n:=by
 obtain ⟨n,e,q,h1,h2,h3,h4⟩:=keyT_flat hk
 have ha:aggT P e = some false:=by unfold aggT; rw [h2]
 unfold flatT at h3
 rw [h1] at h3
 simp only at h3
 cases hf:flatT P 4 e with
 | none => rw [hf] at h3; cases h3
 | some ke =>
  rw [hf] at h3
  obtain ⟨k0,rfl⟩:=flat_scalar hf ha
  simp only [List.length_singleton] at h3
  split at h3 <;> cases h3
  rename_i hs
  have hl:(List.replicate n [k0]).flatten.length = n:=by simp
  unfold keyOK at hok
  cases k with
  | agg cs =>
   have hc:=of_decide_eq_true hok
   cases hv with
   | agg hvs => exact ⟨n,e,q,_,cs,h1,h2,hs,ha,hl,rfl,rfl,hvs,by rw [hc,hl]⟩
  | _ => cases hok
theorem run_range_unit {f:Nat -> Sem Unit} {w:World}:∀ (m j:Nat),(∀ i,i < j + m -> (f i).run P w = .ok () w) -> (forIn (List.range' j m) PUnit.unit fun i _ => do f i; pure (ForInStep.yield PUnit.unit)).run P w = .ok PUnit.unit w
 | 0,j,_ => by simp [Sem.run_pure]
 | m + 1,j,h => by
  rw [List.range'_succ,List.forIn_cons]
  simp only [Sem.run_bind,h j (by omega),Result.andThen_ok,Sem.run_pure]
  exact run_range_unit m (j + 1) fun i hi => h i (by omega)
theorem checkKey_ok {kt:TypeId} {ks:KeyK} (hk:keyT P kt = some ks) {k:AV} (hok:keyOK ks k = true) {v:Value} (hv:VR ρ k v) (b:Bool):(Instr.checkKey b 10000 kt v).run P w = .ok () w:=by
 cases ks with
 | one q => exact checkKey_run hk b v
 | flat ks =>
  obtain ⟨n,e,q,vs,cs,h1,h2,h3,h4,h5,rfl,rfl,h6,h7⟩:=flat_key hk hok hv
  have hsz:vs.size = n:=by rw [<- Array.length_toList, <- VRs.length h6,h7]
  have h8:∀ i,i < n -> (do let x <- sizeOf e; let y <- part e vs (i * x); Instr.checkKey b 9999 e y:Sem Unit).run P w = .ok () w:=by
   intro i hi
   simp only [Sem.run_bind,sizeT_run h3,Result.andThen_ok]
   rw [part_run h3 false h4 (fun _ => rfl) (by omega)]
   simp only [Result.andThen_ok]
   rw [show (9999:Nat) = 9998 + 1 from rfl,Instr.checkKey]
   simp only [Sem.run_bind,run_underlying h2,Result.andThen_ok,Sem.run_pure]
  rw [show (10000:Nat) = 9999 + 1 from rfl,Instr.checkKey]
  simp only [Sem.run_bind,run_underlying h1,Result.andThen_ok,Std.Legacy.Range.forIn_eq_forIn_range',Std.Legacy.Range.size,Nat.sub_zero,Nat.add_sub_cancel,Nat.div_one]
  have:=run_range_unit (P:=P) (w:=w) (f:=fun i => do let x <- sizeOf e; let y <- part e vs (i * x); Instr.checkKey b 9999 e y) n 0 (fun i hi => h8 i (by omega))
  have:=congrArg (fun r => r.andThen fun _ w' => Result.ok () w') this
  simpa [bind_assoc] using this
theorem findAsking_run {kt : TypeId} {ks : List Nat} (hk : keyT P kt = some (.flat ks)) {k : AV} (hok : keyOK (.flat ks) k = true) {vk : Value} (hv : VR ρ k vk) : ∀ {es : List (AV × AV)} {ms : List MapEntry} {n : Nat} {r : Option (Nat × AV)}, EsR ρ es ms -> findKey (.flat ks) k es n = some r ->
  ∃ r',(Instr.findAsking kt vk ms n).run P w = .ok r' w /\ ((r = none /\ r' = none) \/ ∃ i av v,r = some (i,av) /\ r' = some (i,v) /\ VR ρ av v)
 | [],ms,n,r,he,hf => by
  cases he
  simp [findKey] at hf; subst hf
  exact ⟨none,by simp [Instr.findAsking,Sem.run_pure], .inl ⟨rfl,rfl⟩⟩
 | (k',v') :: es,ms,n,r,he,hf => by
  cases he with
  | cons hk' hv' hs =>
   rename_i en ms'
   simp only [findKey] at hf
   cases hq:keyEq (.flat ks) k k' with
   | none => rw [hq] at hf; cases hf
   | some b =>
    rw [hq] at hf
    have heq:(Op.equal kt vk en.key).run P w = .ok b w:=by
     obtain ⟨_,_,_,h4,_,h6,h7⟩:=keyT_flat hk
     have hag:aggT P kt = some true:=by unfold aggT; rw [h4]
     unfold keyEq at hq
     cases k with
     | agg a =>
      cases k' with
      | agg b' =>
       simp only at hq
       split at hq <;> first | (cases hq; done) | skip
       rename_i hl
       cases hv with
       | agg hva =>
        generalize hek:en.key = ek at hk'
        cases hk' with
        | agg hvb =>
         have:=flat_run (ρ:=ρ) 5 kt ks Op.maxDepth _ _ _ _ b w h6 h7 (by decide) hva hvb hl.1 hl.2 hq
         simpa [valOf,hag,Op.equal] using this
      | _ => cases hq
     | _ => cases hq
    cases b with
    | true =>
     simp at hf; subst hf
     exact ⟨_,by simp [Instr.findAsking,heq,Sem.run_pure], .inr ⟨n,v',_,rfl,rfl,hv'⟩⟩
    | false =>
     simp only at hf
     obtain ⟨r',h1,h2⟩:=findAsking_run hk hok hv hs hf
     exact ⟨r',by simp [Instr.findAsking,heq,h1],h2⟩
theorem findKey_ok {kt : TypeId} {ks : KeyK} (hk : keyT P kt = some ks) {k : AV} {vk : Value} (hv : VR ρ k vk) {es : List (AV × AV)} {ms : List MapEntry} {r : Option (Nat × AV)} (he : EsR ρ es ms) (hf : lookK ks k es = some r) :
  keyOK ks k = true /\ findKey ks k es 0 = some r /\ ∃ r',(Instr.findKey kt vk ms).run P w = .ok r' w /\ ((r = none /\ r' = none) \/ ∃ i av v,r = some (i,av) /\ r' = some (i,v) /\ VR ρ av v):=by
 unfold lookK at hf
 cases hok:keyOK ks k with
 | false => rw [hok] at hf; cases hf
 | true =>
  rw [hok] at hf
  simp only [cond_true] at hf
  refine ⟨rfl,hf,?_⟩
  cases ks with
  | one q =>
   obtain ⟨dsc,r',hd,hfn,hr⟩:=findKey_run hk hv he hf
   exact ⟨r',by simp [Instr.findKey,run_underlying hd,hfn,Sem.run_pure],hr⟩
  | flat ks =>
   obtain ⟨n0,e0,_,h4,_⟩:=keyT_flat hk
   cases he with
   | nil =>
    simp [findKey] at hf; subst hf
    exact ⟨none,by simp [Instr.findKey,run_underlying h4,Instr.findNow], .inl ⟨rfl,rfl⟩⟩
   | cons hk' hv' hs =>
    obtain ⟨r',h1,h2⟩:=findAsking_run (w:=w) hk hok hv (.cons hk' hv' hs) hf
    refine ⟨r',?_,h2⟩
    have hnone:Instr.findNow (.array n0 e0) vk (‹MapEntry› :: ‹List MapEntry›) 0 = none:=by
     simp [Instr.findNow,Instr.sameNow]
    simp only [Instr.findKey,Sem.run_bind,run_underlying h4,Result.andThen_ok]
    rw [hnone]
    exact h1
theorem q_lookup (hs : Sim P ρ h B w) {t kt e : TypeId} (hu : P.underlying t = some (.map kt e)) {ks : KeyK} (hk : keyT P kt = some ks) {z : AV} (hz : zeroV P e = some z) {ok : Bool} {am ak : AOpd} {vm vk : Value}
  (hm:VR ρ (ev tm am) vm) (hkv:VR ρ (ev tm ak) vk) {av:AV} (he:evalQ (.lookup ks z ok am ak) tm h = some av):∃ v,(Instr.lookup t vm vk ok).run P w = .ok v w /\ VR ρ av v:=by
 obtain ⟨zv,hz1,hz2⟩:=zeroV_run hz ρ w
 simp only [evalQ] at he
 cases hx:ev tm am with
 | nilm =>
  rw [hx] at hm he; cases hm
  obtain ⟨dsc,hd⟩:=keyT_desc hk
  have hok:keyOK ks (ev tm ak) = true:=by
   cases hok:keyOK ks (ev tm ak) with
   | false => rw [hok] at he; cases he
   | true => rfl
  rw [hok] at he
  have hrun:(Instr.lookup t (.map none) vk ok).run P w = .ok (if ok then .tuple #[zv, .bool false] else zv) w:=by
   simp [Instr.lookup,run_underlying hu,checkKey_ok hk hok hkv,Instr.findKey,run_underlying hd,Instr.findNow,hz1]
  refine ⟨_,hrun,?_⟩
  cases he
  cases ok
  ·simpa using hz2
  ·exact .tup (.cons hz2 (.cons (.bool _) .nil))
 | map i =>
  rw [hx] at hm he
  simp only at he
  cases hg:h.get i with
  | none => rw [hg] at he; cases he
  | some ob =>
   cases ob with
   | map es =>
    rw [hg] at he
    cases hm with
    | map hp =>
     rename_i p
     obtain ⟨_,_,_,ms,ck,hb,hes,_⟩:=hs.obj i _ _ hg hp
     simp only at he
     cases hf:lookK ks (ev tm ak) es with
     | none => rw [hf] at he; cases he
     | some r =>
      rw [hf] at he
      obtain ⟨hok,_,r',hfn,hr⟩:=findKey_ok (w:=w) hk hkv hes hf
      have hget:(getObj p.blk).run P w = .ok (.map ms ck) w:=by
       show (Sem.getObj p.blk Sem.pure).run P w = _
       simp only [Sem.run,hb]
      rcases hr with ⟨rfl,rfl⟩ | ⟨j,av',v',rfl,rfl,hvv⟩
      ·have hrun : (Instr.lookup t (.map (some p.blk)) vk ok).run P w = .ok (if ok then .tuple #[zv, .bool false] else zv) w := by
        simp [Instr.lookup,run_underlying hu,hget,checkKey_ok hk hok hkv,hfn,hz1]
       refine ⟨_,hrun,?_⟩
       cases he
       cases ok
       ·simpa using hz2
       ·exact .tup (.cons hz2 (.cons (.bool _) .nil))
      ·have hrun : (Instr.lookup t (.map (some p.blk)) vk ok).run P w = .ok (if ok then .tuple #[v', .bool true] else v') w := by
        simp [Instr.lookup,run_underlying hu,hget,checkKey_ok hk hok hkv,hfn]
       refine ⟨_,hrun,?_⟩
       cases he
       cases ok
       ·simpa using hvv
       ·exact .tup (.cons hvv (.cons (.bool _) .nil))
   | _ => rw [hg] at he; cases he
 | _ => rw [hx] at he; cases he
end
end Go.AM
namespace Go.AM
open Go
section
variable {P:Program} {ρ:Rho} {h:AHeap} {B:Nat} {w:World} {tm:List AV} {a:Act}
theorem exec_builtin {o : Oper} {b : Builtin} {cargs : Array Operand} {cts : Array TypeId} (ho : o.op = .call ⟨.builtin b, cargs, cts⟩) :
  execOp a.eval o = builtin b cts o.type (cargs.map fun | .const _ => true | _ => false) (cargs.map a.eval):=by
 simp only [execOp,ho]; rfl
theorem q_lenA {o : Oper} {cargs : Array Operand} {cts : Array TypeId} (ho : o.op = .call ⟨.builtin .len, cargs, cts⟩) {t : TypeId} {n : Nat} {vx : Value} (hct : cts[0]? = some t) (hca : cargs.map a.eval = #[vx])
  (hu:(∃ e,P.underlying t = some (.array n e)) \/ ∃ b e,P.underlying t = some (.pointer b) /\ P.underlying b = some (.array n e)):QS P ρ w a o (.int .i64 n):=by
 rw [QS,exec_builtin ho]
 rcases hu with ⟨e,hu⟩ | ⟨b,e,hu,hb⟩
 ·exact ⟨_,by simp [builtin,Builtin.len_,hct,hca,run_underlying hu,goInt], .int _ _⟩
 ·exact ⟨_,by simp [builtin,Builtin.len_,hct,hca,run_underlying hu,run_underlying hb,goInt], .int _ _⟩
theorem q_len (hs : Sim P ρ h B w) {o : Oper} {cargs : Array Operand} {cts : Array TypeId} (ho : o.op = .call ⟨.builtin .len, cargs, cts⟩) {t : TypeId} {k : Nat} {ax : AOpd} {vx : Value} (hct : cts[0]? = some t) (hca : cargs.map a.eval = #[vx])
  (hv:VR ρ (ev tm ax) vx) (hu:(k = 0 /\ P.underlying t = some .string) \/ (k = 1 /\ ∃ e,P.underlying t = some (.slice e)) \/ (k = 2 /\ ∃ q e,P.underlying t = some (.map q e))) {av:AV}
  (he:evalQ (.len k ax) tm h = some av):QS P ρ w a o av:=by
 rw [QS,exec_builtin ho]
 simp only [evalQ] at he
 rcases hu with ⟨rfl,hu⟩ | ⟨rfl,e,hu⟩ | ⟨rfl,q,e,hu⟩
 ·cases hx:ev tm ax with
  | str l =>
   rw [hx] at hv he; cases he
   cases hv with
   | str hl => rename_i bs; subst hl; exact ⟨.int .i64 bs.size,by simp [builtin,Builtin.len_,hct,hca,run_underlying hu,goInt],by rw [List.length_map]; exact .int _ _⟩
  | _ => rw [hx] at he; cases he
 ·cases hx:ev tm ax with
  | nils => rw [hx] at hv he; cases he; cases hv; exact ⟨_,by simp [builtin,Builtin.len_,hct,hca,run_underlying hu,goInt], .int _ _⟩
  | slice i off n c =>
   rw [hx] at hv he; cases he
   cases hv <;> exact ⟨_,by simp [builtin,Builtin.len_,hct,hca,run_underlying hu,goInt], .int _ _⟩
  | _ => rw [hx] at he; cases he
 ·cases hx:ev tm ax with
  | nilm => rw [hx] at hv he; cases he; cases hv; exact ⟨_,by simp [builtin,Builtin.len_,hct,hca,run_underlying hu,goInt], .int _ _⟩
  | map i =>
   rw [hx] at hv he
   simp only at he
   cases hg:h.get i with
   | none => rw [hg] at he; cases he
   | some ob =>
    cases ob with
    | map es =>
     rw [hg] at he; cases he
     cases hv with
     | map hp =>
      rename_i p
      obtain ⟨_,_,_,ms,ck,hb,hes,_⟩:=hs.obj i _ _ hg hp
      have hget:(getObj p.blk).run P w = .ok (.map ms ck) w:=by
       show (Sem.getObj p.blk Sem.pure).run P w = _
       simp only [Sem.run,hb]
      have hlen:es.length = ms.size:=by
       have:∀ {es:List (AV × AV)} {ms:List MapEntry},EsR ρ es ms -> es.length = ms.length:=by
        intro es ms h; induction h with
        | nil => rfl
        | cons _ _ _ ih => simp [ih]
       rw [this hes]; rfl
      exact ⟨.int .i64 ms.size,by simp [builtin,Builtin.len_,hct,hca,run_underlying hu,hget,goInt],by rw [hlen]; exact .int _ _⟩
    | _ => rw [hg] at he; cases he
  | _ => rw [hx] at he; cases he
theorem q_maxmin {o : Oper} {cargs : Array Operand} {cts : Array TypeId} {xs : List AOpd} {vs : List Value} (hvs : VRs ρ (evs tm xs) vs) (hca : (cargs.map a.eval).toList = vs) {av : AV} :
  (o.op = .call ⟨.builtin .max,cargs,cts⟩ -> evalQ (.mx xs) tm h = some av -> QS P ρ w a o av) /\ (o.op = .call ⟨.builtin .min,cargs,cts⟩ -> evalQ (.mn xs) tm h = some av -> QS P ρ w a o av):=by
 constructor
 ·intro ho he
  rw [QS,exec_builtin ho]
  simp only [evalQ] at he
  cases hx:evs tm xs with
  | nil => rw [hx] at he; cases he
  | cons x r =>
   rw [hx] at he hvs
   cases hvs with
   | cons hv hr =>
    obtain ⟨v,h1,h2⟩:=maxs_run (P:=P) (w:=w) hv hr he
    exact ⟨v,by simp only [builtin,Builtin.max_,hca,Sem.run_bind,h1]; rfl,h2⟩
 ·intro ho he
  rw [QS,exec_builtin ho]
  simp only [evalQ] at he
  cases hx:evs tm xs with
  | nil => rw [hx] at he; cases he
  | cons x r =>
   rw [hx] at he hvs
   cases hvs with
   | cons hv hr =>
    obtain ⟨v,h1,h2⟩:=mins_run (P:=P) (w:=w) hv hr he
    exact ⟨v,by simp only [builtin,Builtin.min_,hca,Sem.run_bind,h1]; rfl,h2⟩
theorem q_call (hs:Sim P ρ h B w) (ht:TR ρ tm a.tmps) {o:Oper} {c:Call} (ho:o.op = .call c) {ao:AOp} (htr:trCall P c = some ao) (hc:ao.cls = .q) {av:AV} (he:evalQ ao tm h = some av):QS P ρ w a o av:=by
 unfold trCall at htr
 cases hargs:trOpds c.args.toList with
 | none => rw [hargs] at htr; cases htr
 | some args =>
  rw [hargs] at htr
  have hvs:=opds_sound ht hargs
  obtain ⟨callee,cargs,cts⟩:=c
  simp only at htr hargs hvs
  have hlist:(cargs.map a.eval).toList = cargs.toList.map a.eval:=Array.toList_map ..
  split at htr
  ·-- a value
   split at htr <;> cases htr
   simp [AOp.cls] at hc
  ·cases htr
  ·-- append
   split at htr <;> first | (cases htr; done) | skip
   split at htr <;> first | (cases htr; done) | skip
   all_goals (split at htr <;> first | (cases htr; done) | skip)
   all_goals (split at htr <;> cases htr)
   all_goals simp [AOp.cls] at hc
  ·-- copy
   split at htr <;> first | (cases htr; done) | skip
   split at htr <;> first | (cases htr; done) | skip
   split at htr <;> first | (cases htr; done) | skip
   split at htr <;> cases htr
   simp [AOp.cls] at hc
  ·-- len
   split at htr <;> first | (cases htr; done) | skip
   rename_i x t ts hcts
   have hct0:cts[0]? = some t:=by
    have:cts.toList[0]? = some t:=by rw [hcts]; rfl
    simpa using this
   have hone:∃ vx,cargs.map a.eval = #[vx] /\ VR ρ (ev tm x) vx:=by
    cases hl:cargs.toList.map a.eval with
    | nil => rw [hl] at hvs; cases hvs
    | cons vx vs =>
     rw [hl] at hvs
     cases hvs with
     | cons hv hvs' =>
      cases hvs'
      exact ⟨vx,by apply Array.ext'; rw [hlist,hl],hv⟩
   obtain ⟨vx,hca,hv⟩:=hone
   split at htr
   ·cases htr; rename_i n e hu
    simp only [evalQ,Option.some.injEq] at he; subst he
    exact q_lenA ho hct0 hca (.inl ⟨e,hu⟩)
   ·rename_i b hu
    split at htr
    ·cases htr; rename_i n e hb
     simp only [evalQ,Option.some.injEq] at he; subst he
     exact q_lenA ho hct0 hca (.inr ⟨b,e,hu,hb⟩)
    ·cases htr
   ·cases htr; rename_i hu; exact q_len hs ho hct0 hca hv (.inl ⟨rfl,hu⟩) he
   ·cases htr; rename_i e hu; exact q_len hs ho hct0 hca hv (.inr (.inl ⟨rfl,e,hu⟩)) he
   ·cases htr; rename_i q e hu; exact q_len hs ho hct0 hca hv (.inr (.inr ⟨rfl,q,e,hu⟩)) he
   ·cases htr
  ·cases htr; exact (q_maxmin hvs hlist).1 ho he
  ·cases htr; exact (q_maxmin hvs hlist).2 ho he
  ·cases htr
theorem opt_sound (ht : TR ρ tm a.tmps) {x : Option Operand} {ax : Option AOpd} (hx : trO x = some ax) {r : Option Int} (hr : optInt tm ax = some r) :
  (∀ n,r = some n -> ∃ k,x.map a.eval = some (.int k n)) /\ (r = none -> x.map a.eval = none):=optInt_sound ht hx hr
theorem q_sound (hs:Sim P ρ h B w) (ht:TR ρ tm a.tmps) {o:Oper} {ao:AOp} (htr:trOp P o.op = some ao) (hc:ao.cls = .q) {av:AV} (he:evalQ ao tm h = some av):QS P ρ w a o av:=by
 cases hop:o.op with
 | move x =>
  rw [hop] at htr; simp only [trOp] at htr
  split at htr <;> cases htr
  rename_i ax hx
  simp only [evalQ,Option.some.injEq] at he; subst he
  exact q_move ht (.inl hop) hx
 | assign x =>
  rw [hop] at htr; simp only [trOp] at htr
  split at htr <;> cases htr
  rename_i ax hx
  simp only [evalQ,Option.some.injEq] at he; subst he
  exact q_move ht (.inr hop) hx
 | pick c x y =>
  rw [hop] at htr; simp only [trOp] at htr
  split at htr <;> cases htr
  rename_i ac ax ay h1 h2 h3
  have v1:=opd_sound ht h1
  simp only [evalQ] at he
  cases hx:ev tm ac with
  | bool b =>
   rw [hx] at he v1
   generalize hvc:a.eval c = vc at v1
   cases v1
   simp only [Option.some.injEq] at he; subst he
   cases b
   ·exact ⟨_,by simp [execOp,hop,hvc,asBool],opd_sound ht h3⟩
   ·exact ⟨_,by simp [execOp,hop,hvc,asBool],opd_sound ht h2⟩
  | _ => rw [hx] at he; cases he
 | alloc t => rw [hop] at htr; simp only [trOp] at htr; split at htr <;> cases htr; simp [AOp.cls] at hc
 | box t x => rw [hop] at htr; simp only [trOp] at htr; split at htr <;> cases htr; simp [AOp.cls] at hc
 | build t ps =>
  rw [hop] at htr; simp only [trOp] at htr
  split at htr
  ·rename_i z l fs hz hl hu
   split at htr
   ·rename_i hall
    split at htr <;> cases htr
    rename_i m hm
    simp only [evalQ] at he
    cases hf:fills z m tm with
    | none => rw [hf] at he; cases he
    | some c =>
     rw [hf] at he; cases he
     obtain ⟨zv,hz1,hz2⟩:=zeroOf_run hz ρ w
     obtain ⟨g1,g2⟩:=trParts_spec hl
     obtain ⟨k1,k2⟩:=partsS_spec hm
     have hinfo:∀ f ∈ fs, ∃ i,P.info? f.type = some i:=by
      intro f hf'
      have:=(List.all_eq_true.1 hall) f (by simpa using hf')
      unfold sizeT at this
      cases hi:P.info? f.type with
      | none => simp [hi] at this
      | some i => exact ⟨i,rfl⟩
     obtain ⟨cs,f1,f2⟩:=fills_run ht (place:=fun j => (fs.map fun f => (f.offset,P.cellsOf f.type))[j]?) ps.toList m z c zv.cells (fun k i x hk => by
      obtain ⟨ax,e1,e2⟩:=g2 k i x hk
      obtain ⟨f,n,e3,e4,e5⟩:=k2 k i ax e1
      refine ⟨f.offset,n,ax,e5,?_,e2⟩
      have:P.cellsOf f.type = n:=by
       unfold sizeT at e4; unfold Program.cellsOf
       cases hi:P.info? f.type with
       | none => simp [hi] at e4
       | some i => simp [hi] at e4; simp [e4]
      simp [e3,this]) (by rw [k1,g1]) hz2 hf
     refine ⟨.agg cs,?_, .agg f2⟩
     have hpl:(ps.map fun (p:Nat × Operand) => (p.1,a.eval p.2)).toList = ps.toList.map fun p => (p.1,a.eval p.2):=Array.toList_map ..
     simp only [execOp,hop,Instr.build,Sem.run_bind,hz1,Result.andThen_ok,run_underlying hu,mapM_places fs hinfo]
     have:Instr.fill (fun x => (fs.map fun f => (f.offset,P.cellsOf f.type))[x]?) zv.cells (ps.map fun (p:Nat × Operand) => (p.1,a.eval p.2)).toList = some cs:=by rw [hpl]; exact f1
     simp only [this,Sem.run_pure,Result.andThen_ok]
   ·cases htr
  ·rename_i z l n e hz hl hu
   split at htr <;> cases htr
   rename_i sz hsz
   simp only [evalQ] at he
   cases hf:fills z (l.map fun p => (p.1 * sz,sz,p.2)) tm with
   | none => rw [hf] at he; cases he
   | some c =>
    rw [hf] at he; cases he
    obtain ⟨zv,hz1,hz2⟩:=zeroOf_run hz ρ w
    obtain ⟨g1,g2⟩:=trParts_spec hl
    obtain ⟨cs,f1,f2⟩:=fills_run ht (place:=fun i => some (i * sz,sz)) ps.toList _ z c zv.cells (fun k i x hk => by
     obtain ⟨ax,e1,e2⟩:=g2 k i x hk
     exact ⟨i * sz,sz,ax,by simp [e1],rfl,e2⟩) (by simp [g1]) hz2 hf
    refine ⟨.agg cs,?_, .agg f2⟩
    have hpl:(ps.map fun (p:Nat × Operand) => (p.1,a.eval p.2)).toList = ps.toList.map fun p => (p.1,a.eval p.2):=Array.toList_map ..
    simp only [execOp,hop,Instr.build,Sem.run_bind,hz1,Result.andThen_ok,run_underlying hu,sizeT_run hsz]
    have:Instr.fill (fun i => some (i * sz,sz)) zv.cells (ps.map fun (p:Nat × Operand) => (p.1,a.eval p.2)).toList = some cs:=by rw [hpl]; exact f1
    simp only [this,Sem.run_pure,Result.andThen_ok]
  ·cases htr
 | buildSlice t n ps =>
  rw [hop] at htr; simp only [trOp] at htr
  split at htr <;> first | (cases htr; done) | skip
  split at htr <;> first | (cases htr; done) | skip
  split at htr <;> cases htr
  simp [AOp.cls] at hc
 | load t x =>
  rw [hop] at htr; simp only [trOp] at htr
  split at htr <;> cases htr
  rename_i n ax hn hx
  exact q_load hs ht hop hn hx he
 | store t x y => rw [hop] at htr; simp only [trOp] at htr; split at htr <;> cases htr; simp [AOp.cls] at hc
 | nilCheck x =>
  rw [hop] at htr; simp only [trOp] at htr
  split at htr <;> cases htr
  rename_i ax hx
  have hv:=opd_sound ht hx
  simp only [evalQ] at he
  generalize hvx:a.eval x = vx at hv
  split at he
  ·rename_i i off heq
   rw [heq] at hv; cases he
   cases hv with
   | ptr hp => exact ⟨_,by simp [execOp,hop,hvx], .ptr hp⟩
  ·rename_i f x y heq
   rw [heq] at hv; cases he
   cases hv with
   | fn hf h1 h2 => exact ⟨_,by simp [execOp,hop,hvx], .fn hf h1 h2⟩
  ·rename_i f x y heq
   rw [heq] at hv; cases he
   cases hv with
   | fn hf h1 h2 => exact absurd rfl (hf _)
   | yld hp => exact ⟨_,by simp [execOp,hop,hvx], .yld hp⟩
  ·cases he
 | binOp op t x y t' =>
  rw [hop] at htr; simp only [trOp] at htr
  split at htr <;> cases htr
  rename_i ax ay hx hy
  exact q_bin ht hop hx hy he
 | unOp op t x =>
  rw [hop] at htr; simp only [trOp] at htr
  split at htr <;> cases htr
  rename_i ax hx
  exact q_un ht hop hx he
 | convert s d x =>
  rw [hop] at htr; simp only [trOp] at htr
  split at htr
  ·rename_i sd k ax h1 h2 h3
   cases htr
   have hv:=opd_sound ht h3
   simp only [evalQ] at he
   generalize hvx:a.eval x = vx at hv
   split at he
   ·rename_i k' n heq
    rw [heq] at hv; cases hv; cases he
    rw [awrap_eq]
    exact ⟨_,by simp [execOp,hop,hvx,convert,run_underlying h1,run_underlying h2,Conv.intToInt], .int _ _⟩
   ·cases he
  ·rename_i ax h1 h2 h3
   cases htr
   have hv:=opd_sound ht h3
   simp only [evalQ,optInt] at he
   generalize hvx:a.eval x = vx at hv
   cases hx:ev tm ax with
   | str l =>
    rw [hx] at he hv
    have hb:bounds l.length l.length none none none = some (0,l.length,l.length):=by
     unfold bounds; simp
    simp only [hb] at he
    simp at he
    subst he
    cases hv with
    | str hl => exact ⟨_,by simp [execOp,hop,hvx,convert,run_underlying h1,run_underlying h2], .str hl⟩
   | _ => rw [hx] at he; cases he
  ·rename_i e ax h1 h2 h3
   split at htr <;> cases htr
   simp [AOp.cls] at hc
  ·rename_i e ax h1 h2 h3
   split at htr <;> cases htr
   rename_i he8
   obtain ⟨v,k1,k2⟩:=q_toStr hs (opd_sound ht h3) he
   refine ⟨v,?_,k2⟩
   have hv:=opd_sound ht h3
   simp only [evalQ] at he
   generalize hvx:a.eval x = vx at hv k1
   cases hx:ev tm ax with
   | nils => rw [hx] at hv; cases hv; simp [execOp,hop,hvx,convert,run_underlying h1,run_underlying h2,run_underlying he8,k1]
   | slice i off n c => rw [hx] at hv; cases hv <;> simp [execOp,hop,hvx,convert,run_underlying h1,run_underlying h2,run_underlying he8,k1]
   | _ => rw [hx] at he; cases he
  ·cases htr
 | sliceToArrayPointer _ _ => rw [hop] at htr; cases htr
 | makeInterface t x =>
  rw [hop] at htr; simp only [trOp] at htr
  split at htr
  ·cases htr
  ·rename_i d ax hni h1 h2
   cases htr
   simp only [evalQ,Option.some.injEq] at he; subst he
   refine ⟨.iface t (a.eval x),?_, .iface (opd_sound ht h2)⟩
   simp only [execOp,hop,Instr.makeInterface,Sem.run_bind,run_underlying h1,Result.andThen_ok]
   cases d <;> first | exact absurd h1 (hni _) | simp
  ·cases htr
 | makeFunc fn first captured =>
  rw [hop] at htr
  cases fn with
  | func f =>
   simp only [trOp] at htr
   split at htr <;> cases htr
   rename_i x y h1 h2
   simp only [evalQ,Option.some.injEq] at he; subst he
   refine ⟨.func (.func f) (first.map a.eval) (captured.map a.eval),by simp [execOp,hop,Instr.makeFunc], .fn (fun _ e => by cases e) ?_ ?_⟩
   ·rw [Array.toList_map]; exact opds_sound ht h1
   ·rw [Array.toList_map]; exact opds_sound ht h2
  | _ => simp [trOp] at htr
 | makeMap t r =>
  rw [hop] at htr
  cases r with
  | none => simp only [trOp,Option.some.injEq] at htr; subst htr; simp [AOp.cls] at hc
  | some _ => simp [trOp] at htr
 | makeChan _ _ => rw [hop] at htr; cases htr
 | makeSlice t l c =>
  rw [hop] at htr; simp only [trOp] at htr
  split at htr <;> first | (cases htr; done) | skip
  split at htr <;> first | (cases htr; done) | skip
  split at htr <;> cases htr
  simp [AOp.cls] at hc
 | slice t x lo hi mx =>
  rw [hop] at htr; simp only [trOp] at htr
  split at htr <;> first | (cases htr; done) | skip
  rename_i ax alo ahi amx hx hlo hhi hmx
  have hv:=opd_sound ht hx
  split at htr
  ·rename_i n e hu
   split at htr <;> cases htr
   rename_i sz hsz
   simp only [evalQ] at he
   split at he <;> first | (cases he; done) | skip
   rename_i l hh m i off e1 e2 e3 e4
   rw [e4] at hv
   generalize hvx:a.eval x = vx at hv
   cases hv with
   | ptr hp =>
    split at he <;> cases he
    rename_i l' h' m' hb
    obtain ⟨p1,p1'⟩:=opt_sound ht hlo e1
    obtain ⟨p2,p2'⟩:=opt_sound ht hhi e2
    obtain ⟨p3,p3'⟩:=opt_sound ht hmx e3
    obtain ⟨v,k1,k2⟩:=q_sliceA (P:=P) (w:=w) (t:=t) hsz hp (off:=off) p1 p1' p2 p2' p3 p3' hb (.inl hu)
    exact ⟨v,by simp [execOp,hop,hvx,k1],k2⟩
  ·rename_i hu
   split at htr <;> cases htr
   simp only [evalQ] at he
   split at he <;> first | (cases he; done) | skip
   rename_i l hh s e1 e2 e3
   rw [e3] at hv
   generalize hvx:a.eval x = vx at hv
   cases hv with
   | str hs' =>
    rename_i bs
    split at he <;> cases he
    rename_i l' h' m' hb
    obtain ⟨p1,p1'⟩:=opt_sound ht hlo e1
    obtain ⟨p2,p2'⟩:=opt_sound ht hhi e2
    have hmn:mx = none:=by
     cases mx with
     | none => rfl
     | some y => simp only [trO] at hmx; split at hmx <;> cases hmx
    subst hmn
    have hlen:s.length = bs.size:=by rw [<- hs',List.length_map]; rfl
    rw [hlen] at hb
    have hr:=bounds_run (P:=P) (w:=w) (isSlice:=false) (vmx:=none) hb p1 p1' p2 p2' (fun _ e => by cases e) (fun _ => rfl)
    refine ⟨.string (bs.extract l' h'),by simp [execOp,hop,hvx,Instr.sliceAt,run_underlying hu,Instr.slice,hr], .str ?_⟩
    rw [<- hs']
    simp [ByteArray.data_extract,Array.toList_extract,List.extract,List.map_take,List.map_drop]
  ·rename_i e hu
   split at htr
   ·rename_i sz hsz
    split at htr <;> cases htr
    simp only [evalQ] at he
    split at he <;> first | (cases he; done) | skip
    rename_i l hh m e1 e2 e3
    obtain ⟨p1,p1'⟩:=opt_sound ht hlo e1
    obtain ⟨p2,p2'⟩:=opt_sound ht hhi e2
    obtain ⟨p3,p3'⟩:=opt_sound ht hmx e3
    obtain ⟨v,k1,k2⟩:=q_slice hs hu hsz hv p1 p1' p2 p2' p3 p3' he
    exact ⟨v,by simp [execOp,hop,Instr.sliceAt,run_underlying hu,k1],k2⟩
   ·cases htr
  ·rename_i b hu
   split at htr
   ·rename_i n e hb0
    split at htr <;> cases htr
    rename_i sz hsz
    simp only [evalQ] at he
    split at he <;> first | (cases he; done) | skip
    rename_i l hh m i off e1 e2 e3 e4
    rw [e4] at hv
    generalize hvx:a.eval x = vx at hv
    cases hv with
    | ptr hp =>
     split at he <;> cases he
     rename_i l' h' m' hb
     obtain ⟨p1,p1'⟩:=opt_sound ht hlo e1
     obtain ⟨p2,p2'⟩:=opt_sound ht hhi e2
     obtain ⟨p3,p3'⟩:=opt_sound ht hmx e3
     obtain ⟨v,k1,k2⟩:=q_sliceA (P:=P) (w:=w) (t:=t) hsz hp (off:=off) p1 p1' p2 p2' p3 p3' hb (.inr ⟨b,hu,hb0⟩)
     exact ⟨v,by simp [execOp,hop,hvx,k1],k2⟩
   ·cases htr
  ·cases htr
 | fieldAddr s x f =>
  rw [hop] at htr; simp only [trOp] at htr
  split at htr <;> first | (cases htr; done) | skip
  rename_i fs ax hu hx
  split at htr <;> first | (cases htr; done) | skip
  rename_i fl hfl
  split at htr <;> cases htr
  rename_i n hn
  have hv:=opd_sound ht hx
  simp only [evalQ] at he
  generalize hvx:a.eval x = vx at hv
  split at he <;> cases he
  rename_i i off heq
  rw [heq] at hv
  cases hv with
  | ptr hp =>
   refine ⟨_,by simp [execOp,hop,hvx,Instr.fieldAt,run_underlying hu,hfl,Instr.sureAddr,fieldPlace,sizeT_run hn]; rfl,?_⟩
   rw [Addr.add_plain,Nat.add_assoc]; exact .ptr hp
 | field t x f =>
  rw [hop] at htr; simp only [trOp] at htr
  split at htr <;> first | (cases htr; done) | skip
  rename_i fs ax hu hx
  split at htr <;> first | (cases htr; done) | skip
  rename_i fl hfl
  split at htr <;> cases htr
  rename_i n hn
  have hv:=opd_sound ht hx
  simp only [evalQ] at he
  generalize hvx:a.eval x = vx at hv
  split at he <;> first | (cases he; done) | skip
  rename_i cs heq
  rw [heq] at hv
  cases hv with
  | agg hcs =>
   obtain ⟨v,k1,k2⟩:=fit_part (P:=P) (w:=w) hcs hn he
   exact ⟨v,by simp [execOp,hop,hvx,Instr.field,run_underlying hu,hfl,asAgg,k1],k2⟩
 | indexAddr t x i =>
  rw [hop] at htr; simp only [trOp] at htr
  split at htr
  ·rename_i n e ax ai hu hx hi
   split at htr <;> cases htr
   rename_i sz hsz
   have hv:=opd_sound ht hx
   have hvi:=opd_sound ht hi
   simp only [evalQ] at he
   generalize hvx:a.eval x = vx at hv
   generalize hvy:a.eval i = vy at hvi
   split at he <;> first | (cases he; done) | skip
   rename_i j off k m e1 e2
   rw [e1] at hv; rw [e2] at hvi; cases hvi
   split at he <;> cases he
   rename_i hb
   cases hv with
   | ptr hp =>
    refine ⟨_,by simp [execOp,hop,hvx,hvy,Instr.indexAt,asIntOf,run_underlying hu,Instr.sureAddr,hb,sizeT_run hsz]; rfl,?_⟩
    rw [Addr.add_plain,Nat.add_assoc]; exact .ptr hp
  ·rename_i e ax ai hu hx hi
   split at htr <;> cases htr
   rename_i sz hsz
   have hv:=opd_sound ht hx
   have hvi:=opd_sound ht hi
   simp only [evalQ] at he
   generalize hvx:a.eval x = vx at hv
   generalize hvy:a.eval i = vy at hvi
   split at he <;> first | (cases he; done) | skip
   rename_i j off n cp k m e1 e2
   rw [e1] at hv; rw [e2] at hvi; cases hvi
   split at he <;> cases he
   rename_i hb
   have fin:∀ (p:Place) (c:Nat), ρ j = some p -> vx = .slice (some ⟨p.blk,p.base + off,none⟩) n c -> QS P ρ w a o (.ptr j (off + m.toNat * sz)):=by
    intro p c hp e
    subst e
    refine ⟨_,by simp [execOp,hop,hvx,hvy,Instr.indexAt,asIntOf,run_underlying hu,hb,sizeT_run hsz]; rfl,?_⟩
    rw [Addr.add_plain,Nat.add_assoc]; exact .ptr hp
   cases hv with
   | slx hp _ => exact fin _ _ hp rfl
   | slo hp _ _ => exact fin _ _ hp rfl
   | sle ad hp _ => omega
  ·cases htr
 | index t x i =>
  rw [hop] at htr; simp only [trOp] at htr
  split at htr
  ·rename_i n e ax ai hu hx hi
   split at htr <;> cases htr
   rename_i sz l hsz hl
   have hv:=opd_sound ht hx
   have hvi:=opd_sound ht hi
   simp only [evalQ] at he
   generalize hvx:a.eval x = vx at hv
   generalize hvy:a.eval i = vy at hvi
   split at he <;> first | (cases he; done) | skip
   rename_i cs k m e1 e2
   rw [e1] at hv; rw [e2] at hvi; cases hvi
   split at he <;> first | (cases he; done) | skip
   rename_i hb
   cases hv with
   | agg hcs =>
    obtain ⟨v,k1,k2⟩:=fit_part (P:=P) (w:=w) hcs hl he
    exact ⟨v,by simp [execOp,hop,hvx,hvy,Instr.index,asIntOf,run_underlying hu,hb,sizeT_run hsz,k1],k2⟩
  ·rename_i ax ai hu hx hi
   cases htr
   have hv:=opd_sound ht hx
   have hvi:=opd_sound ht hi
   simp only [evalQ] at he
   generalize hvx:a.eval x = vx at hv
   generalize hvy:a.eval i = vy at hvi
   split at he <;> first | (cases he; done) | skip
   rename_i s k m e1 e2
   rw [e1] at hv; rw [e2] at hvi; cases hvi
   split at he <;> first | (cases he; done) | skip
   rename_i hm
   cases hv with
   | str hs' =>
    rename_i bs
    split at he <;> cases he
    rename_i b hb
    rw [<- hs',List.getElem?_map] at hb
    cases hg:bs.data.toList[m.toNat]? with
    | none => rw [hg] at hb; cases hb
    | some u =>
     rw [hg] at hb; simp at hb; subst hb
     have hlt:m.toNat < bs.size:=by have:=(List.getElem?_eq_some_iff.1 hg).1; simpa using this
     have hget:bs[m.toNat]? = some u:=by
      rw [getElem?_pos bs m.toNat hlt]
      have:=(List.getElem?_eq_some_iff.1 hg).2
      congr 1
     exact ⟨_,by simp [execOp,hop,hvx,hvy,Instr.index,asIntOf,run_underlying hu,hm,hget], .int _ _⟩
  ·cases htr
 | lookup t m k ok =>
  rw [hop] at htr; simp only [trOp] at htr
  split at htr <;> first | (cases htr; done) | skip
  rename_i kt e am ak hu hm hk
  split at htr <;> cases htr
  rename_i ks z hkt hz
  obtain ⟨v,k1,k2⟩:=q_lookup hs hu hkt hz (opd_sound ht hm) (opd_sound ht hk) he
  exact ⟨v,by simp [execOp,hop,k1],k2⟩
 | mapUpdate t m k v =>
  rw [hop] at htr; simp only [trOp] at htr
  split at htr <;> first | (cases htr; done) | skip
  split at htr <;> cases htr
  simp [AOp.cls] at hc
 | insert t m k v =>
  rw [hop] at htr; simp only [trOp] at htr
  split at htr <;> first | (cases htr; done) | skip
  split at htr <;> cases htr
  simp [AOp.cls] at hc
 | extract x i =>
  rw [hop] at htr; simp only [trOp] at htr
  split at htr <;> cases htr
  rename_i ax hx
  have hv:=opd_sound ht hx
  simp only [evalQ] at he
  generalize hvx:a.eval x = vx at hv
  split at he <;> first | (cases he; done) | skip
  rename_i vs heq
  rw [heq] at hv
  cases hv with
  | tup hvs =>
   rename_i us
   obtain ⟨y,h1,h2⟩:=VRs.get hvs he
   have h1':us[i]? = some y:=by simpa using h1
   exact ⟨y,by simp [execOp,hop,hvx,Instr.extract,h1'],h2⟩
 | call c => rw [hop] at htr; exact q_call hs ht hop htr hc he
 | _ => rw [hop] at htr; cases htr
end
end Go.AM
namespace Go.AM
open Go
section
variable {P:Program} {B:Nat} {ρ0:Rho} {h0:AHeap} {w0:World} {ρ:Rho} {h:AHeap} {w:World}
theorem Stp.ghost (s:Stp P B ρ0 h0 w0 ρ h w) (o:AObj):Stp P B ρ0 h0 w0 ρ (h.push o) w:=by
 have hlt:∀ i p, ρ i = some p -> i < h.next:=s.sim.dom
 have hget:∀ i p, ρ i = some p -> (h.push o).get i = h.get i:=fun i p hi => AHeap.get_push_lt h o (hlt i p hi)
 refine ⟨s.ext,⟨s.sim.low,?_,?_,?_,s.sim.tidy.push _⟩,s.os,s.tape,s.output,s.size,s.frame,?_,?_,s.fresh,s.loops,s.drawn⟩
 ·intro i p hi; have:=hlt i p hi; simp; omega
 ·intro i o' p hg hp; rw [hget i p hp] at hg; exact s.sim.obj i o' p hg hp
 ·intro i j oi oj pi pj hne hi hj hpi hpj hw
  rw [hget i pi hpi] at hi; rw [hget j pj hpj] at hj
  exact s.sim.sep i j oi oj pi pj hne hi hj hpi hpj hw
 ·intro i o' p hg hp hw; rw [hget i p hp] at hg; exact s.orig i o' p hg hp hw
 ·have:=s.next; simp; omega
theorem Stp.fill (s : Stp P B ρ0 h0 w0 ρ h w) {i : Nat} {o : AObj} {b : Obj} {p : Place} (hi : ρ i = none) (h0i : h0.next <= i) (hlt : i < h.next) (hg : h.get i = some o) (hp : p.blk = w.heap.size)
  (ho:ObjR P (upd ρ i p) B (w.alloc b) o p):Stp P B ρ0 h0 w0 (upd ρ i p) h (w.alloc b):=by
 have hx:Ext ρ (upd ρ i p):=Ext.upd p hi
 have hold:∀ k,k < w.heap.size -> (w.alloc b).heap[k]? = w.heap[k]?:=fun k hk => RowKit.Below.heap_alloc w b k hk
 refine ⟨s.ext.trans hx,⟨?_,?_,?_,?_,s.sim.tidy⟩,s.os,s.tape,s.output,?_,?_,?_,s.next,?_,fun k L h => by
  obtain ⟨L1,h1⟩:=s.loops k L h
  exact ⟨L1,by rw [hold k (Array.getElem?_eq_some_iff.1 h1).1]; exact h1⟩,s.drawn⟩
 ·have:=s.sim.low; simp; omega
 ·intro j q hj
  by_cases e:j = i
  ·subst e; exact hlt
  ·rw [upd_ne _ _ e] at hj; exact s.sim.dom _ _ hj
 ·intro j o' q h1 h2
  by_cases e:j = i
  ·subst e; rw [hg] at h1; rw [upd_self] at h2; cases h1; cases h2; exact ho
  ·rw [upd_ne _ _ e] at h2
   have:=s.sim.obj j o' q h1 h2
   exact (this.same (hold _ this.lt)).mono hx
 ·intro j k oj ok pj pk hne h1 h2 h3 h4 h5
  by_cases ej:j = i
  ·have ek:k ≠ i:=fun e => hne (ej.trans e.symm)
   rw [upd_ne _ _ ek] at h4
   rw [ej,upd_self] at h3; cases h3
   exact .inl (by have:=(s.sim.obj k ok pk h2 h4).lt; omega)
  ·by_cases ek:k = i
   ·rw [upd_ne _ _ ej] at h3
    rw [ek,upd_self] at h4; cases h4
    exact .inl (by have:=(s.sim.obj j oj pj h1 h3).lt; omega)
   ·rw [upd_ne _ _ ej] at h3; rw [upd_ne _ _ ek] at h4
    exact s.sim.sep j k oj ok pj pk hne h1 h2 h3 h4 h5
 ·have:=s.size; simp; omega
 ·intro k hk hoff
  rw [hold k (Nat.lt_of_lt_of_le hk s.size)]; exact s.frame k hk hoff
 ·intro j o' q h1 h2 h3
  by_cases e:j = i
  ·subst e; rw [upd_self] at h2; cases h2; exact .inl (by have:=s.size; omega)
  ·rw [upd_ne _ _ e] at h2; exact s.orig j o' q h1 h2 h3
 ·intro j q hj
  by_cases e:j = i
  ·subst e; exact .inr h0i
  ·rw [upd_ne _ _ e] at hj; exact s.fresh j q hj
theorem ObjR.newCells {c : List AV} {cc : Array Value} {el : TypeId} {fr : Nat × Nat} {room : Nat} (hs : B <= w.heap.size) (hroom : room <= cc.size) (hc : c.length <= room)
  (hv:∀ (k:Nat) a,c[k]? = some a -> ∃ v,cc[k]? = some v /\ VR ρ a v) (hfr:room <= fr.1 \/ fr.2 = 0) :
  ObjR P ρ B (w.alloc (.cells cc el fr)) (.cells c true) ⟨w.heap.size,0,room⟩:=by
 refine ⟨cc,el,fr,by show (w.heap.push _)[w.heap.size]? = _; simp,by simpa using hroom,hc,fun k a hk => by simpa using hv k a hk,fun _ => ⟨hs,fun k _ hk => ?_⟩⟩
 simp at hk
 rcases hfr with h | h <;> omega
theorem VRs.getA {c:List AV} {cc:Array Value} (h:VRs ρ c cc.toList) (k:Nat) (a:AV) (hk:c[k]? = some a):∃ v,cc[k]? = some v /\ VR ρ a v:=by
 obtain ⟨v,h1,h2⟩:=h.get hk
 exact ⟨v,by simpa using h1,h2⟩
theorem repl_length (n:Nat) (z:List AV):(repl n z).length = n * z.length:=by
 induction n with
 | zero => simp [repl_zero]
 | succ n ih => rw [repl_succ,List.length_append,ih,Nat.succ_mul]; omega
theorem repl_get (n:Nat) (z:List AV) (k:Nat) (hk:k < n * z.length):(repl n z)[k]? = z[k % z.length]?:=by
 induction n generalizing k with
 | zero => simp at hk
 | succ n ih =>
  rw [repl_succ]
  by_cases h1:k < z.length
  ·rw [List.getElem?_append_left h1,Nat.mod_eq_of_lt h1]
  ·rw [List.getElem?_append_right (by omega),ih _ (by rw [Nat.succ_mul] at hk; omega)]
   congr 1
   rw [<- Nat.mod_eq_sub_mod (by omega)]
theorem made_run {z:List AV} {zs:Array Value} (hz:VRs ρ z zs.toList) (h1:1 <= z.length) (n:Nat):VRs ρ (repl n z) (madeCells zs (n * z.length)).toList:=by
 have hl:=VRs.length hz
 refine VRs.of_get (by simp [repl_length,madeCells]) fun k x y hx hy => ?_
 have hk:k < n * z.length:=by rw [<- repl_length]; exact (List.getElem?_eq_some_iff.1 hx).1
 rw [repl_get n z k hk] at hx
 obtain ⟨v,h2,h3⟩:=hz.get hx
 have hlt:k % z.length < zs.size:=by rw [<- Array.length_toList, <- hl]; exact Nat.mod_lt _ (by omega)
 simp only [Array.length_toList] at hl
 simp [madeCells,hk, <- hl] at hy
 subst hy
 have:zs[k % z.length]? = some v:=by simpa using h2
 rw [getElem!_pos zs _ hlt]
 rw [getElem?_pos zs _ hlt] at this
 cases this; exact h3
theorem zeroOf_info {t:TypeId} {z:List AV} (hz:zeroOf P t = some z):∃ i zv,P.info? t = some i /\ i.zero = some zv /\ ∀ ρ,VRs ρ z zv.cells.toList:=by
 unfold zeroOf at hz
 split at hz
 ·rename_i i hi
  split at hz
  ·rename_i zv hzv
   exact ⟨i,zv,hi,hzv,fun ρ => absVs_sound _ _ hz⟩
  ·cases hz
 ·cases hz
theorem sizeT_info {t:TypeId} {n:Nat} {i:TypeInfo} (hn:sizeT P t = some n) (hi:P.info? t = some i):i.size = n:=by
 unfold sizeT at hn; rw [hi] at hn; simpa using hn
theorem bytesT_info {t:TypeId} {n:Nat} {i:TypeInfo} (hn:bytesT P t = some n) (hi:P.info? t = some i):i.bytes = n:=by
 unfold bytesT at hn; rw [hi] at hn; simpa using hn
theorem fillsS_eq (sz:Nat) (tm:List AV) (ps:List (Nat × AOpd)):∀ z,fillsS sz z ps tm = fills z (ps.map fun p => (p.1 * sz,sz,p.2)) tm:=by
 induction ps with
 | nil => intro z; rfl
 | cons p r ih =>
  intro z; obtain ⟨i,x⟩:=p
  simp only [fillsS,List.map_cons,fills,ih]
theorem ofBytes_length (l:List Nat):(ofBytes l).length = l.length:=by induction l <;> simp [ofBytes, *]
theorem ofBytes_get (l:List Nat) (k:Nat):(ofBytes l)[k]? = (l[k]?).map fun b => AV.int .u8 b:=by
 induction l generalizing k with
 | nil => simp [ofBytes]
 | cons b r ih => cases k <;> simp [ofBytes,ih]
theorem le_grownCap (need old:Nat) (e:TypeId):need <= grownCap w need old e:=by
 unfold grownCap
 simp only [Question.cut]
 omega
variable {tm:List AV} {a:Act} {o:Oper}
abbrev AS (P:Program) (B:Nat) (ρ0:Rho) (h0:AHeap) (w0:World) (ρ:Rho) (h:AHeap) (w:World) (a:Act) (o:Oper) (i:Nat) (av:AV):Prop :=
 ∃ v p w',(execOp a.eval o).run P w = .ok (.value v) w' /\ Stp P B ρ0 h0 w0 (upd ρ i p) h w' /\ VR (upd ρ i p) av v
theorem a_sound (s : Stp P B ρ0 h0 w0 ρ h w) (ht : TR ρ tm a.tmps) {ao : AOp} (htr : trOp P o.op = some ao) {hh : AHeap} {b : AObj} {av : AV} (he : evalA ao tm hh = some (b, av))
  (hi:ρ hh.next = none) (h0i:h0.next <= hh.next) (hlt:hh.next < h.next) (hg:h.get hh.next = some b):AS P B ρ0 h0 w0 ρ h w a o hh.next av:=by
 have hx:∀ p,Ext ρ (upd ρ hh.next p):=fun p => Ext.upd p hi
 cases hop:o.op with
 | alloc t =>
  rw [hop] at htr; simp only [trOp] at htr
  split at htr <;> cases htr
  rename_i z hz
  simp only [evalA,Option.some.injEq,Prod.mk.injEq] at he
  obtain ⟨rfl,rfl⟩:=he
  obtain ⟨zv,h1,h2⟩:=zeroOf_run (P:=P) hz ρ w
  refine ⟨.pointer (some ⟨w.heap.size,0 + 0,none⟩),⟨w.heap.size,0,zv.cells.size⟩,w.alloc (.cells zv.cells t),by simp [execOp,hop,Instr.alloc,h1,newVar,newRow],s.fill hi h0i hlt hg rfl (ObjR.newCells s.sim.low (Nat.le_refl _) ?_ ?_ (.inr rfl)), .ptr (p:=⟨w.heap.size,0,_⟩) (upd_self _ _ _)⟩
  ·rw [VRs.length h2,Array.length_toList]; exact Nat.le_refl _
  ·exact fun k a hk => VRs.getA (h2.mono (hx _)) k a hk
 | box t x =>
  rw [hop] at htr; simp only [trOp] at htr
  split at htr <;> cases htr
  rename_i ax hax
  simp only [evalA,Option.some.injEq,Prod.mk.injEq] at he
  obtain ⟨rfl,rfl⟩:=he
  have h2:=(opd_sound ht hax).cells
  refine ⟨.pointer (some ⟨w.heap.size,0 + 0,none⟩),⟨w.heap.size,0,(a.eval x).cells.size⟩,w.alloc (.cells (a.eval x).cells t),by simp [execOp,hop,Instr.box,newVar,newRow],s.fill hi h0i hlt hg rfl (ObjR.newCells s.sim.low (Nat.le_refl _) ?_ ?_ (.inr rfl)), .ptr (p:=⟨w.heap.size,0,_⟩) (upd_self _ _ _)⟩
  ·rw [VRs.length h2,Array.length_toList]; exact Nat.le_refl _
  ·exact fun k a hk => VRs.getA (h2.mono (hx _)) k a hk
 | buildSlice t n ps =>
  rw [hop] at htr; simp only [trOp] at htr
  split at htr <;> first | (cases htr; done) | skip
  rename_i e l hu hl
  split at htr <;> first | (cases htr; done) | skip
  rename_i sz z hsz hz
  split at htr <;> cases htr
  rename_i hcond
  obtain ⟨c1,c2,c3⟩:=hcond
  simp only [evalA] at he
  cases hf:fillsS sz (repl n z) l tm with
  | none => rw [hf] at he; cases he
  | some c =>
   rw [hf] at he; cases he
   obtain ⟨i,zv,hinf,hzv,hzr⟩:=zeroOf_info hz
   have hisz:=sizeT_info hsz hinf
   rw [fillsS_eq] at hf
   obtain ⟨g1,g2⟩:=trParts_spec hl
   have hbase:VRs ρ (repl n z) (madeCells (if n * sz = 0 then #[] else zv.cells) (n * sz)).toList:=by
    by_cases h0:n * sz = 0
    ·have:n = 0:=by rcases Nat.mul_eq_zero.1 h0 with h | h <;> omega
     subst this; simp [repl_zero,madeCells]; exact .nil
    ·rw [if_neg h0]
     have:=made_run (hzr ρ) (by omega) n
     rw [c3] at this; exact this
   obtain ⟨cs,f1,f2⟩:=fills_run ht (place:=fun i => some (i * sz,sz)) ps.toList _ (repl n z) c _ (fun k i x hk => by
    obtain ⟨ax,e1,e2⟩:=g2 k i x hk
    exact ⟨i * sz,sz,ax,by simp [e1],rfl,e2⟩) (by simp [g1]) hbase hf
   have hrun:(execOp a.eval o).run P w = .ok (.value (.slice (some ⟨w.heap.size,0,none⟩) n n)) (w.alloc (.cells cs e)):=by
    have hpl:(ps.map fun (p:Nat × Operand) => (p.1,a.eval p.2)).toList = ps.toList.map fun p => (p.1,a.eval p.2):=Array.toList_map ..
    have hfill:Instr.fill (fun i => some (i * sz,sz)) (madeCells (if n * sz = 0 then #[] else zv.cells) (n * sz)) (ps.map fun (p:Nat × Operand) => (p.1,a.eval p.2)).toList = some cs:=by rw [hpl]; exact f1
    have hno:¬ (n * sz > 16777216):=by omega
    have hsrun:(sizeOf e).run P w = .ok sz w:=by simp [sizeOf,typeInfo,hinf,hisz]
    simp only [execOp,hop,Instr.buildSlice,Sem.run_bind,run_underlying hu,Result.andThen_ok,hsrun]
    rw [show (2:Nat) ^ 24 = 16777216 from rfl]
    simp only [madeCells] at hfill
    rw [if_neg hno]
    have hz1:n * sz ≠ 0 -> (zeroValue e).run P w = .ok zv w:=fun _ => by simp [zeroValue,typeInfo,hinf,hzv]
    by_cases h0:n * sz = 0
    ·rw [if_pos h0] at hfill ⊢
     simp only [Sem.run_bind,Sem.run_pure,Result.andThen_ok,hfill]
     simp [newRow]
    ·rw [if_neg h0] at hfill ⊢
     simp only [Sem.run_bind,Sem.run_pure,Result.andThen_ok,hz1 h0,hfill]
     simp [newRow]
   have hlen:c.length = n * sz:=by
    have e1:=VRs.length f2
    have e2:cs.size = n * sz:=by
     have:∀ (ps:List (Nat × Value)) (cc cs:Array Value),Instr.fill (fun i => some (i * sz,sz)) cc ps = some cs -> cs.size = cc.size:=by
      intro ps
      induction ps with
      | nil => intro cc cs h; simp [Instr.fill] at h; rw [h]
      | cons p r ih =>
       intro cc cs h
       obtain ⟨i,v⟩:=p
       simp only [Instr.fill] at h
       split at h
       ·cases h
       ·rw [ih _ _ h]
        have hfold:∀ (us:List (Value × Nat)) (cc:Array Value),(us.foldl (fun cs (p:Value × Nat) => cs.setIfInBounds (i * sz + p.2) p.1) cc).size = cc.size:=by
         intro us; induction us with
         | nil => intro cc; rfl
         | cons u us ih => intro cc; simp [List.foldl_cons,ih]
        rw [<- Array.foldl_toList]
        exact hfold _ _
     rw [this _ _ _ f1]; simp [madeCells]
    rw [e1,Array.length_toList,e2]
   refine ⟨_,⟨w.heap.size,0,cs.size⟩,_,hrun,s.fill hi h0i hlt hg rfl (ObjR.newCells s.sim.low (Nat.le_refl _) ?_ ?_ (.inr rfl)), .slx (p:=⟨w.heap.size,0,cs.size⟩) (upd_self _ _ _) (Nat.le_refl _)⟩
   ·rw [VRs.length f2,Array.length_toList]; exact Nat.le_refl _
   ·exact fun k a hk => VRs.getA (f2.mono (hx _)) k a hk
 | makeSlice t lx cx =>
  rw [hop] at htr; simp only [trOp] at htr
  split at htr <;> first | (cases htr; done) | skip
  rename_i e al ac hu hal hac
  split at htr <;> first | (cases htr; done) | skip
  rename_i sz by' z hsz hby hz
  split at htr <;> cases htr
  rename_i hcond
  obtain ⟨c1,c2,c3⟩:=hcond
  simp only [evalA] at he
  have hv1:=opd_sound ht hal
  have hv2:=opd_sound ht hac
  generalize hvl:a.eval lx = vl at hv1
  generalize hvc:a.eval cx = vc at hv2
  split at he <;> first | (cases he; done) | skip
  rename_i kl l kc c e1 e2
  rw [e1] at hv1; rw [e2] at hv2; cases hv1; cases hv2
  split at he <;> cases he
  rename_i hb
  obtain ⟨b1,b2,b3⟩:=hb
  obtain ⟨i,zv,hinf,hzv,hzr⟩:=zeroOf_info hz
  have hisz:=sizeT_info hsz hinf
  have hiby:=bytesT_info hby hinf
  have hcb:c <= c * by':=by
   have:c * 1 <= c * (by':Int):=Int.mul_le_mul_of_nonneg_left (by omega) (by omega)
   omega
  have hr:=run_make (P:=P) w t e i zv hu hinf hzv kl kc l c b1 b2 (by rw [hiby,Int.mul_comm]; omega) (by omega)
  rw [hisz] at hr
  have hm:=made_run (hzr ρ) (by omega) c.toNat
  rw [c3] at hm
  refine ⟨.slice (some ⟨w.heap.size,0 + 0,none⟩) l.toNat c.toNat,⟨w.heap.size,0,c.toNat * sz⟩,w.alloc (.cells (madeCells zv.cells (c.toNat * sz)) e),by simp [execOp,hop,hvl,hvc,hr],s.fill hi h0i hlt hg rfl (ObjR.newCells s.sim.low (by simp [size_madeCells]) ?_ ?_ (.inr rfl)), .slx (p:=⟨w.heap.size,0,_⟩) (upd_self _ _ _) (by omega)⟩
  ·rw [repl_length,c3]; exact Nat.le_refl _
  ·exact fun k a hk => VRs.getA (hm.mono (hx _)) k a hk
 | makeMap t r =>
  rw [hop] at htr
  cases r with
  | some _ => simp [trOp] at htr
  | none =>
   simp only [trOp,Option.some.injEq] at htr; subst htr
   simp only [evalA,Option.some.injEq,Prod.mk.injEq] at he
   obtain ⟨rfl,rfl⟩:=he
   refine ⟨.map (some w.heap.size),⟨w.heap.size,0,1⟩,w.alloc (.map #[] 0),by simp [execOp,hop,Instr.makeMap],s.fill hi h0i hlt hg rfl ⟨rfl,rfl,s.sim.low, #[],0,by show (w.heap.push _)[w.heap.size]? = _; simp, .nil,Born.nil 0⟩, .map (p:=⟨w.heap.size,0,1⟩) (upd_self _ _ _)⟩
 | convert sr d x =>
  rw [hop] at htr; simp only [trOp] at htr
  split at htr
  ·cases htr; cases he
  ·cases htr; cases he
  ·rename_i e ax h1 h2 h3
   split at htr <;> cases htr
   rename_i he8
   simp only [evalA] at he
   have hv:=opd_sound ht h3
   generalize hvx:a.eval x = vx at hv
   split at he <;> cases he
   rename_i l heq
   rw [heq] at hv
   cases hv with
   | str hl =>
    rename_i bs
    have hr:=run_bytes_of_string (P:=P) w sr d e bs h1 h2 he8
    have hcap:=le_grownCap (w:=w) bs.size 0 e
    have hll:l.length = bs.size:=by rw [<- hl,List.length_map]; rfl
    have hrow:(bytesRow bs (grownCap w bs.size 0 e)).size = grownCap w bs.size 0 e:=by
     simp only [bytesRow,Array.size_append,Array.size_map,Array.size_replicate]
     have:bs.data.size = bs.size:=rfl
     omega
    have s':Stp P B ρ0 h0 w0 ρ h w.drew:=s.drew _ (Nat.le_succ _)
    refine ⟨.slice (some ⟨w.drew.heap.size,0 + 0,none⟩) bs.size (grownCap w bs.size 0 e),⟨w.drew.heap.size,0,grownCap w bs.size 0 e⟩,_,by simp [execOp,hop,hvx,hr]; rfl,s'.fill hi h0i hlt hg rfl (ObjR.newCells s'.sim.low (by rw [hrow]; exact Nat.le_refl _) ?_ ?_ (.inl (by rw [hrow]; exact Nat.le_refl _))),?_⟩
    ·rw [ofBytes_length,hll]; exact hcap
    ·intro k av hk
     rw [ofBytes_get, <- hl,List.getElem?_map] at hk
     cases hg':bs.data.toList[k]? with
     | none => rw [hg'] at hk; cases hk
     | some u =>
      rw [hg'] at hk; simp at hk; subst hk
      have hlt':k < bs.data.size:=by have:=(List.getElem?_eq_some_iff.1 hg').1; simpa using this
      refine ⟨.int .u8 u.toNat,?_, .int _ _⟩
      have hu:bs.data[k]? = some u:=by simpa using hg'
      simp only [bytesRow]
      rw [Array.getElem?_append_left (by simpa using hlt')]
      simp [hu]
    ·rw [hll]
     refine .slo (p:=⟨w.drew.heap.size,0,grownCap w bs.size 0 e⟩) (upd_self _ _ _) hcap ?_
     show 0 + grownCap w bs.size 0 e * 1 = grownCap w bs.size 0 e
     omega
  ·split at htr <;> cases htr
   cases he
  ·cases htr
 | call c =>
  rw [hop] at htr
  exfalso
  have:ao.cls ≠ .a:=by
   simp only [trOp,trCall] at htr
   split at htr <;> first | (cases htr; done) | skip
   split at htr
   ·split at htr <;> cases htr; simp [AOp.cls]
   ·cases htr
   ·split at htr <;> first | (cases htr; done) | skip
    split at htr <;> first | (cases htr; done) | skip
    all_goals (split at htr <;> first | (cases htr; done) | skip)
    all_goals (split at htr <;> cases htr)
    all_goals simp [AOp.cls]
   ·split at htr <;> first | (cases htr; done) | skip
    split at htr <;> first | (cases htr; done) | skip
    split at htr <;> first | (cases htr; done) | skip
    split at htr <;> cases htr
    simp [AOp.cls]
   ·split at htr <;> first | (cases htr; done) | skip
    split at htr <;> first | (cases htr; simp [AOp.cls]; done) | (cases htr; done) | skip
    split at htr <;> cases htr; simp [AOp.cls]
   ·cases htr; simp [AOp.cls]
   ·cases htr; simp [AOp.cls]
   ·cases htr
  cases ao <;> first | (cases he; done) | (exact this rfl)
 | makeFunc fn f c =>
  rw [hop] at htr
  cases fn <;> simp only [trOp] at htr <;> first | (cases htr; done) | skip
  split at htr <;> cases htr
  cases he
 | _ =>
  rw [hop] at htr
  simp only [trOp] at htr
  first
   | (cases htr; done)
   | ((repeat' (split at htr)) <;> first | (cases htr; done) | (cases htr; cases he; done))
end
end Go.AM
namespace Go.AM
open Go
section
variable {P:Program} {B:Nat} {ρ:Rho} {h:AHeap} {w:World}
theorem putLay (hs : Sim P ρ h B w) {i o : Nat} {c c' new : List AV} {p : Place} {vs : List Value} (hg : h.get i = some (.cells c true)) (hp : ρ i = some p) (hl : lay c o new = some c')
  (hv:VRs ρ new vs) (h1:∀ v ∈ vs,v.oneCell' = true) :
  ∃ w',(storeCells ⟨p.blk,p.base + o,none⟩ vs).run P w = .ok () w' /\ Stp P B ρ h w ρ (h.set i (.cells c' true)) w':=by
 obtain ⟨cc,el,fr,hb,hsz,hlen,hval,hfr⟩:=hs.obj i _ p hg hp
 obtain ⟨l1,l2,l3⟩:=lay_spec hl
 have hvl:=VRs.length hv
 have hle:p.base + o + vs.length <= cc.size:=by omega
 refine ⟨_,run_storeCells_put hb hle h1 (fun k k1 k2 => (hfr rfl).2 k (by omega) (by omega)),?_⟩
 refine hs.putCells hg hp hb (over_size _ _ _) ?_ (by omega) ?_
 ·intro k hk
  rw [over_get _ _ _ _ hle,if_neg (by omega)]
 ·intro k a hk
  rw [l3 k] at hk
  by_cases hin:o <= k /\ k < o + new.length
  ·rw [if_pos hin] at hk
   obtain ⟨v,e1,e2⟩:=hv.get hk
   refine ⟨v,?_,e2⟩
   rw [over_get _ _ _ _ hle,if_pos (by omega),show p.base + k - (p.base + o) = k - o by omega]; exact e1
  ·rw [if_neg hin] at hk
   obtain ⟨v,e1,e2⟩:=hval k a hk
   refine ⟨v,?_,e2⟩
   rw [over_get _ _ _ _ hle,if_neg (by omega)]; exact e1
theorem extendLay (hs : Sim P ρ h B w) {i o : Nat} {c new : List AV} {p : Place} {vs : List Value} (hg : h.get i = some (.cells c true)) (hp : ρ i = some p) (ho : o <= c.length) (hroom : c.length + new.length <= p.room)
  (hv:VRs ρ new vs) (h1:∀ v ∈ vs,v.oneCell' = true) :
  ∃ w',(storeCells ⟨p.blk,p.base + c.length,none⟩ vs).run P w = .ok () w' /\ Stp P B ρ h w (upd ρ h.next ⟨p.blk,p.base + o,p.room - o⟩) ((h.del i).push (.cells (drops c o ++ new) true)) w':=by
 obtain ⟨cc,el,fr,hb,hsz,hlen,hval,hfr⟩:=hs.obj i _ p hg hp
 have hvl:=VRs.length hv
 have hle:p.base + c.length + vs.length <= cc.size:=by omega
 refine ⟨_,run_storeCells_put hb hle h1 (fun k k1 k2 => (hfr rfl).2 k (by omega) (by omega)),?_⟩
 rw [drops_eq]
 refine hs.extend hg hp hb (over_size _ _ _) (by omega) ?_ (by simp; omega) ?_
 ·intro k hk
  rw [over_get _ _ _ _ hle,if_neg (by omega)]
 ·intro k a hk
  by_cases hin:k < c.length - o
  ·rw [List.getElem?_append_left (by simpa using hin),List.getElem?_drop] at hk
   obtain ⟨v,e1,e2⟩:=hval _ a hk
   refine ⟨v,?_,e2⟩
   rw [over_get _ _ _ _ hle,if_neg (by omega),Nat.add_assoc]; exact e1
  ·rw [List.getElem?_append_right (by simpa using hin)] at hk
   simp only [List.length_drop] at hk
   obtain ⟨v,e1,e2⟩:=hv.get hk
   have hk':k - (c.length - o) < vs.length:=(List.getElem?_eq_some_iff.1 e1).1
   refine ⟨v,?_,e2⟩
   rw [over_get _ _ _ _ hle,if_pos (by omega),show p.base + o + k - (p.base + c.length) = k - (c.length - o) by omega]; exact e1
theorem Stp.del (hs:Sim P ρ h B w) (i:Nat):Stp P B ρ h w ρ (h.del i) w:=by
 have hold:∀ j o,(h.del i).get j = some o -> h.get j = some o:=by
  intro j o hj
  by_cases e:j = i
  ·subst e; rw [AHeap.get_del_same] at hj; cases hj
  ·rw [AHeap.get_del_ne _ e] at hj; exact hj
 exact ⟨Ext.refl _,⟨hs.low,hs.dom,fun j o p h1 h2 => hs.obj j o p (hold j o h1) h2,fun j k oj ok pj pk hne h1 h2 => hs.sep j k oj ok pj pk hne (hold _ _ h1) (hold _ _ h2),hs.tidy.del i⟩,rfl,rfl,rfl,Nat.le_refl _,
  fun _ _ _ => rfl,fun j o p h1 h2 h3 => .inr ⟨j,o,p,hold _ _ h1,h2,h3,rfl⟩,Nat.le_refl _,fun _ _ h => .inl h,fun _ L h => ⟨L,h⟩,Nat.le_refl _⟩
theorem Sim.newRow (hs : Sim P ρ h B w) {c : List AV} {cc : Array Value} {el : TypeId} {room : Nat} (hroom : room <= cc.size) (hc : c.length <= room) (hv : ∀ (k : Nat) a, c[k]? = some a -> ∃ v, cc[k]? = some v /\ VR ρ a v) :
  Stp P B ρ h w (upd ρ h.next ⟨w.heap.size,0,room⟩) (h.push (.cells c true)) (w.alloc (.cells cc el)):=by
 have hnone:ρ h.next = none:=by
  cases e:ρ h.next with
  | none => rfl
  | some q => exact absurd (hs.dom _ _ e) (Nat.lt_irrefl _)
 exact hs.push _ _ _ rfl (ObjR.newCells hs.low hroom hc (fun k a hk => let ⟨v,h1,h2⟩:=hv k a hk; ⟨v,h1,h2.mono (Ext.upd _ hnone)⟩) (.inr rfl))
theorem cellsOf_some {i:Nat} {c:List AV} (hc:cellsOf h i = some c):∃ r,h.get i = some (.cells c r):=by
 unfold cellsOf at hc; split at hc <;> cases hc; rename_i c' r hg; exact ⟨r,hg⟩
theorem ownOf_some {i:Nat} {c:List AV} (hc:ownOf h i = some c):h.get i = some (.cells c true):=by
 unfold ownOf at hc; split at hc <;> cases hc; rename_i hg; exact hg
theorem VRs.one {new:List AV} {vs:List Value} (hv:VRs ρ new vs) (hsc:new.all AV.scalar = true):∀ v ∈ vs,v.oneCell' = true:=by
 intro v hm
 obtain ⟨k,hk,e⟩:=List.getElem_of_mem hm
 have hl:=VRs.length hv
 have hk':k < new.length:=by omega
 obtain ⟨y,e1,e2⟩:=hv.get (List.getElem?_eq_getElem hk')
 rw [List.getElem?_eq_getElem hk] at e1
 cases e1; subst e
 exact e2.oneCell (List.all_eq_true.1 hsc _ (List.getElem_mem _))
theorem src_run (hs : Sim P ρ h B w) {sz n : Nat} {ax : AV} {vx : Value} (hv : VR ρ ax vx) {new : List AV} (he : srcOf sz ax h = some (n, new)) :
    (Builtin.lenOf vx).run P w = .ok n w ∧ new.length = n * sz ∧ new.all AV.scalar = true ∧
      ∃ vs:List Value,VRs ρ new vs ∧ ∀ m,m ≤ n → ∀ w':World,w'.heap = w.heap → (Builtin.firstCells sz m vx).run P w' = .ok (vs.take (m * sz)).toArray w':=by
  unfold srcOf at he
  split at he
  · cases he; cases hv
    exact ⟨by simp [Builtin.lenOf],by simp,rfl, [], .nil,fun m hm w' _ => by simp [Builtin.firstCells]⟩
  · rename_i j o n' cp
    cases hz:Nat.beq n' 0 with
    | true =>
      have hn0:=Nat.eq_of_beq_eq_true hz
      subst hn0
      simp only [Nat.beq_refl,cond_true] at he
      cases he
      refine ⟨?_,by simp,rfl, [], .nil,fun m hm w' _ => ?_⟩
      · cases hv <;> simp [Builtin.lenOf]
      · have:m = 0:=by omega
        subst this
        cases hv <;> simp [Builtin.firstCells,loadCells,loadCellsFrom,Sem.run_pure]
    | false =>
     rw [hz] at he
     simp only [cond_false] at he
     split at he <;> first | (cases he; done) | skip
     rename_i c hc
     split at he <;> first | (cases he; done) | skip
     rename_i r hcut
     cases hall:r.all AV.scalar with
     | false => rw [hall] at he; cases he
     | true =>
       rw [hall] at he; cases he
       obtain ⟨rw',hg⟩:=cellsOf_some hc
       have main:∀ p, ρ j = some p → ∀ c',(∃ vs:List Value,VRs ρ new vs ∧ ∀ m,m ≤ n → ∀ w':World,w'.heap = w.heap → (Builtin.firstCells sz m (.slice (some ⟨p.blk,p.base + o,none⟩) n c')).run P w' = .ok (vs.take (m * sz)).toArray w'):=by
         intro p hp c'
         obtain ⟨vs,k1,k2,k3⟩:=read_cut hs hg hp hcut
         refine ⟨vs,k2,fun m hm w' hw => ?_⟩
         have hle:m * sz ≤ n * sz:=Nat.mul_le_mul_right _ hm
         have:=run_loadCells_of (P:=P) (w:=w') (b:=p.blk) (o:=p.base + o) (vs:=vs.take (m * sz)) (fun j v hj => by
           rw [List.getElem?_take] at hj
           split at hj
           · have hk:=k3 j v hj
             simp only [World.cell?,hw] at hk ⊢; exact hk
           · cases hj)
         rw [List.length_take,k1,Nat.min_eq_left hle] at this
         exact this
       have hlen:=(cut_spec hcut).1
       cases hv with
       | slx hp _ => exact ⟨by simp [Builtin.lenOf],hlen,hall,main _ hp _⟩
       | slo hp _ _ => exact ⟨by simp [Builtin.lenOf],hlen,hall,main _ hp _⟩
       | sle a hp _ =>
         refine ⟨by simp [Builtin.lenOf],hlen,hall, [],?_,fun m hm w' _ => ?_⟩
         · have:new = []:=List.eq_nil_of_length_eq_zero (by omega)
           subst this; exact .nil
         · have:m = 0:=by omega
           subst this; simp [Builtin.firstCells,loadCells,loadCellsFrom,Sem.run_pure]
  · rename_i s
    split at he <;> cases he
    rename_i h1; subst h1
    cases hv with
    | str hl =>
      rename_i bs
      have hll:s.length = bs.size:=by rw [← hl,List.length_map]; rfl
      refine ⟨by simp [Builtin.lenOf,hll],by simp [ofBytes_length],?_,(bs.data.toList.map fun b => Value.int .u8 b.toNat),?_,fun m hm w' _ => ?_⟩
      · have : ∀ l : List Nat, (ofBytes l).all AV.scalar = true := by
          intro l; induction l with
          | nil => rfl
          | cons b r ih => simp [ofBytes,ih,AV.scalar]
        exact this s
      · subst hl
        have:∀ l:List UInt8,VRs ρ (ofBytes (l.map (·.toNat))) (l.map fun b => Value.int .u8 b.toNat):=by
          intro l; induction l with
          | nil => exact .nil
          | cons b r ih => exact .cons (.int _ _) ih
        exact this _
      · simp only [Builtin.firstCells,Sem.run_pure,Nat.mul_one]
        congr 1
        apply Array.ext'
        simp [ByteArray.data_extract,Array.toList_extract,List.extract]
  · cases he
theorem append_in {ats : Array TypeId} {ty t u e : TypeId} {du : TypeDesc} (h0 : ats[0]? = some t) (h1 : ats[1]? = some u) (ht : P.underlying t = some (.slice e)) (hu : P.underlying u = some du) (hdu : ∀ k, du ≠ .int k)
  {i:TypeInfo} (hi:P.info? e = some i) {base:Option Addr} {sLen sCap n:Nat} {vx:Value} {new:Array Value} (hn:(Builtin.lenOf vx).run P w = .ok n w) (hle:sLen + n <= sCap)
  (hnew:(Builtin.firstCells i.size n vx).run P w = .ok new w) {w':World} (hst:(match base with | some a => storeCells (a.add (sLen * i.size)) new.toList | none => pure ()).run P w = .ok () w') :
  (Builtin.append_ ats ty #[.slice base sLen sCap,vx]).run P w = .ok (.slice base (sLen + n) sCap) w':=by
 have hz:(match du with | .int _ => true | _ => false) = false:=by cases du <;> first | rfl | exact absurd rfl (hdu _)
 cases base with
 | none =>
  simp only [Sem.run_pure] at hst
  cases hst
  simp [Builtin.append_,h0,h1,run_underlying ht,run_underlying hu,sizeOf,typeInfo,hi,hn,hle,hnew]
 | some a =>
  simp [Builtin.append_,h0,h1,run_underlying ht,run_underlying hu,sizeOf,typeInfo,hi,hn,hle,hnew,hst]
theorem append_grow {ats : Array TypeId} {ty t u e : TypeId} {du : TypeDesc} (h0 : ats[0]? = some t) (h1 : ats[1]? = some u) (ht : P.underlying t = some (.slice e)) (hu : P.underlying u = some du) (hdu : ∀ k, du ≠ .int k)
  {i:TypeInfo} (hi:P.info? e = some i) {z:Value} (hz':i.zero = some z) {base:Option Addr} {sLen sCap n:Nat} {vx:Value} {new olds:Array Value} (hn:(Builtin.lenOf vx).run P w = .ok n w) (hlt:sCap < sLen + n)
  (hb1:1 <= i.bytes) (hb:(sLen + n) * i.bytes <= 140737488355328)
  (hold:(Builtin.firstCells i.size sLen (.slice base sLen sCap)).run P w.drew = .ok olds w.drew) (hnew:(Builtin.firstCells i.size n vx).run P w.drew = .ok new w.drew) :
  (Builtin.append_ ats ty #[.slice base sLen sCap,vx]).run P w = .ok (.slice (some ⟨w.heap.size,0,none⟩) (sLen + n) (grownCap w (sLen + n) sCap e))
   (w.drew.alloc (.cells (olds ++ new ++ Builtin.zeroCells z.cells (grownCap w (sLen + n) sCap e - (sLen + n))) e)):=by
 have hz:(match du with | .int _ => true | _ => false) = false:=by cases du <;> first | rfl | exact absurd rfl (hdu _)
 have hnot:¬ (sLen + n <= sCap):=by omega
 have hfit:=growslice_fits hlt hb
 have h48':¬ (281474976710656 < Builtin.nextslicecap (sLen + n) sCap * i.bytes):=by omega
 have hbz:¬ i.bytes = 0:=by omega
 simp [Builtin.append_,h0,h1,run_underlying ht,run_underlying hu,sizeOf,typeInfo,zeroValue,hi,hz',hn,hnot,hbz,h48',Question.forced,hold,hnew,newRow,grownCap]
end
end Go.AM
