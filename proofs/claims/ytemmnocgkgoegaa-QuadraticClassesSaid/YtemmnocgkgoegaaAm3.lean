/- What a state of the abstract machine says of a world: the relation of values, of objects, of heaps; a step of both. No condition. -/
import Derived.Test.YtemmnocgkgoegaaAm2
import Derived.Laws.World
import Derived.WalkKit
namespace Go.AM
open Go

/-- where an object lies: its block, the cell at which it begins, how many cells are its own -/
structure Place where
  blk : Nat
  base : Nat
  room : Nat

abbrev Rho := Nat → Option Place

mutual
inductive VR (ρ : Rho) : AV → Value → Prop
  | int (k : IntKind) (n : Int) : VR ρ (.int k n) (.int k n)
  | bool (b : Bool) : VR ρ (.bool b) (.bool b)
  | str {l : List Nat} {s : ByteArray} (h : s.data.toList.map (·.toNat) = l) : VR ρ (.str l) (.string s)
  | nilp : VR ρ .nilp (.pointer none)
  | ptr {i off : Nat} {p : Place} (h : ρ i = some p) : VR ρ (.ptr i off) (.pointer (some ⟨p.blk, p.base + off, none⟩))
  | nils : VR ρ .nils (.slice none 0 0)
  | slx {i off n c : Nat} {p : Place} (h : ρ i = some p) (hc : n ≤ c) : VR ρ (.slice i off n (.exact c)) (.slice (some ⟨p.blk, p.base + off, none⟩) n c)
  | slo {i off n sz c : Nat} {p : Place} (h : ρ i = some p) (hc : n ≤ c) (hr : off + c * sz = p.room) : VR ρ (.slice i off n (.opn sz)) (.slice (some ⟨p.blk, p.base + off, none⟩) n c)
  | sle {i off sz : Nat} {p : Place} (a : Addr) (h : ρ i = some p) (hr : off = p.room) : VR ρ (.slice i off 0 (.opn sz)) (.slice (some a) 0 0)
  | nilm : VR ρ .nilm (.map none)
  | map {i : Nat} {p : Place} (h : ρ i = some p) : VR ρ (.map i) (.map (some p.blk))
  | nilf : VR ρ .nilf .nilFunc
  | fn {f : Fn} {a b : List AV} {a' b' : Array Value} (hf : ∀ l, f ≠ .yield l) (ha : VRs ρ a a'.toList) (hb : VRs ρ b b'.toList) : VR ρ (.fn f a b) (.func f a' b')
  | yld {l : Nat} {p : Place} (h : ρ l = some p) : VR ρ (.fn (.yield l) [] []) (.func (.yield p.blk) #[] #[])
  | nili : VR ρ .nili .nilIface
  | iface {t : Nat} {a : AV} {v : Value} (h : VR ρ a v) : VR ρ (.iface t a) (.iface t v)
  | agg {cs : List AV} {vs : Array Value} (h : VRs ρ cs vs.toList) : VR ρ (.agg cs) (.agg vs)
  | tup {cs : List AV} {vs : Array Value} (h : VRs ρ cs vs.toList) : VR ρ (.tup cs) (.tuple vs)
inductive VRs (ρ : Rho) : List AV → List Value → Prop
  | nil : VRs ρ [] []
  | cons {a : AV} {v : Value} {as : List AV} {vs : List Value} (h : VR ρ a v) (hs : VRs ρ as vs) : VRs ρ (a :: as) (v :: vs)
end

def Ext (ρ ρ' : Rho) : Prop := ∀ i p, ρ i = some p → ρ' i = some p
theorem Ext.refl (ρ : Rho) : Ext ρ ρ := fun _ _ h => h
theorem Ext.trans {a b c : Rho} (h : Ext a b) (k : Ext b c) : Ext a c := fun i p hi => k i p (h i p hi)

mutual
theorem VR.mono {ρ ρ' : Rho} (hx : Ext ρ ρ') : ∀ {a : AV} {v : Value}, VR ρ a v → VR ρ' a v
  | _, _, .int k n => .int k n
  | _, _, .bool b => .bool b
  | _, _, .str h => .str h
  | _, _, .nilp => .nilp
  | _, _, .ptr h => .ptr (hx _ _ h)
  | _, _, .nils => .nils
  | _, _, .slx h hc => .slx (hx _ _ h) hc
  | _, _, .slo h hc hr => .slo (hx _ _ h) hc hr
  | _, _, .sle a h hr => .sle a (hx _ _ h) hr
  | _, _, .nilm => .nilm
  | _, _, .map h => .map (hx _ _ h)
  | _, _, .nilf => .nilf
  | _, _, .fn hf ha hb => .fn hf (VRs.mono hx ha) (VRs.mono hx hb)
  | _, _, .yld h => .yld (hx _ _ h)
  | _, _, .nili => .nili
  | _, _, .iface h => .iface (VR.mono hx h)
  | _, _, .agg h => .agg (VRs.mono hx h)
  | _, _, .tup h => .tup (VRs.mono hx h)
theorem VRs.mono {ρ ρ' : Rho} (hx : Ext ρ ρ') : ∀ {a : List AV} {v : List Value}, VRs ρ a v → VRs ρ' a v
  | _, _, .nil => .nil
  | _, _, .cons h hs => .cons (VR.mono hx h) (VRs.mono hx hs)
end

theorem VRs.length {ρ : Rho} {a : List AV} {v : List Value} (h : VRs ρ a v) : a.length = v.length := by
  induction a generalizing v with
  | nil => cases h; rfl
  | cons x xs ih => cases h with | cons h hs => simp [ih hs]
theorem VRs.get {ρ : Rho} {a : List AV} {v : List Value} (h : VRs ρ a v) {k : Nat} {x : AV} (hk : a[k]? = some x) : ∃ y, v[k]? = some y ∧ VR ρ x y := by
  induction a generalizing v k with
  | nil => simp at hk
  | cons x xs ih =>
    cases h with
    | cons h hs =>
      cases k with
      | zero => simp at hk; subst hk; exact ⟨_, rfl, h⟩
      | succ k => simp at hk; simpa using ih hs hk
theorem VRs.append {ρ : Rho} {a b : List AV} {v u : List Value} (h : VRs ρ a v) (h' : VRs ρ b u) : VRs ρ (a ++ b) (v ++ u) := by
  induction a generalizing v with
  | nil => cases h; exact h'
  | cons x xs ih => cases h with | cons h hs => exact .cons h (ih hs)
theorem VRs.of_get {ρ : Rho} {a : List AV} {v : List Value} (hl : a.length = v.length) (h : ∀ (k : Nat) (x : AV) (y : Value), a[k]? = some x → v[k]? = some y → VR ρ x y) : VRs ρ a v := by
  induction a generalizing v with
  | nil => cases v with | nil => exact .nil | cons _ _ => simp at hl
  | cons x xs ih =>
    cases v with
    | nil => simp at hl
    | cons y ys =>
      exact .cons (h 0 x y rfl rfl) (ih (by simpa using hl) fun k a b ha hb => h (k + 1) a b (by simpa using ha) (by simpa using hb))
theorem VRs.replicate {ρ : Rho} (n : Nat) {a : AV} {v : Value} (h : VR ρ a v) : VRs ρ (List.replicate n a) (List.replicate n v) := by
  induction n with
  | zero => exact .nil
  | succ n ih => exact .cons h ih

theorem VR.undef {ρ : Rho} : VR ρ aundef undef := .tup .nil

theorem VR.oneCell {ρ : Rho} {a : AV} {v : Value} (h : VR ρ a v) (hs : a.scalar = true) : v.oneCell' = true := by
  cases h <;> simp_all [AV.scalar, Value.oneCell']
theorem VR.cells {ρ : Rho} {a : AV} {v : Value} (h : VR ρ a v) : VRs ρ a.cells v.cells.toList := by
  cases h with
  | agg h => exact h
  | _ => (refine .cons ?_ .nil); constructor <;> assumption

/-- the temporaries -/
def TR (ρ : Rho) (tm : List AV) (t : Array Value) : Prop := VRs ρ tm t.toList
theorem TR.mono {ρ ρ' : Rho} (hx : Ext ρ ρ') {tm : List AV} {t : Array Value} (h : TR ρ tm t) : TR ρ' tm t := VRs.mono hx h

theorem nth_eq (l : List AV) (n : Nat) : nth l n = l.getD n aundef := by
  induction l generalizing n with
  | nil => rfl
  | cons x xs ih => cases n with
    | zero => rfl
    | succ n => rw [nth_succ, ih]; simp
theorem put_eq (l : List AV) (n : Nat) (v : AV) : put l n v = l.set n v := by
  induction l generalizing n with
  | nil => rfl
  | cons x xs ih => cases n with
    | zero => rfl
    | succ n => rw [put_succ, ih]; simp

theorem TR.nth {ρ : Rho} {tm : List AV} {t : Array Value} (h : TR ρ tm t) (n : Nat) : VR ρ (nth tm n) (t.getD n undef) := by
  rw [nth_eq]
  have hl := VRs.length h
  cases ha : tm[n]? with
  | none =>
    have : t[n]? = none := by simp at ha ⊢; rw [← Array.length_toList, ← hl]; exact ha
    have e : t.getD n undef = undef := by simp [Array.getD_eq_getD_getElem?, this]
    rw [e]; simp [List.getD, ha]; exact VR.undef
  | some x =>
    obtain ⟨y, hy, hv⟩ := VRs.get h ha
    have : t[n]? = some y := by simpa using hy
    simpa [List.getD, ha, Array.getD_eq_getD_getElem?, this] using hv
theorem TR.put {ρ : Rho} {tm : List AV} {t : Array Value} (h : TR ρ tm t) (n : Nat) {a : AV} {v : Value} (hv : VR ρ a v) : TR ρ (put tm n a) (t.setIfInBounds n v) := by
  rw [put_eq]
  unfold TR
  rw [Array.toList_setIfInBounds]
  have hl := VRs.length h
  refine VRs.of_get (by simp [hl]) fun k x y hx hy => ?_
  by_cases e : n = k
  · subst e
    have hx' : n < tm.length := by have := (List.getElem?_eq_some_iff.1 hx).1; simpa using this
    rw [List.getElem?_set_self hx'] at hx
    rw [List.getElem?_set_self (by rw [← hl]; exact hx')] at hy
    cases hx; cases hy; exact hv
  · rw [List.getElem?_set_ne e] at hx hy
    obtain ⟨y', hy', hv'⟩ := VRs.get h hx
    rw [hy] at hy'; cases hy'; exact hv'

/-- the state of a loop's record -/
def stateR : Nat → LoopState → Prop
  | 0, .ready => True
  | 1, .busy => True
  | 2, .done => True
  | 3, .exhausted => True
  | _, _ => False
def pendR : Option AJump → Option Code → Prop
  | none, none => True
  | some .ret, some .ret => True
  | some (.exit i), some (.exit j) => i = j
  | _, _ => False

inductive EsR (ρ : Rho) : List (AV × AV) → List MapEntry → Prop
  | nil : EsR ρ [] []
  | cons {k v : AV} {e : MapEntry} {es : List (AV × AV)} {ms : List MapEntry} (hk : VR ρ k e.key) (hv : VR ρ v e.val) (hs : EsR ρ es ms) : EsR ρ ((k, v) :: es) (e :: ms)
theorem EsR.mono {ρ ρ' : Rho} (hx : Ext ρ ρ') {es : List (AV × AV)} {ms : List MapEntry} (h : EsR ρ es ms) : EsR ρ' es ms := by
  induction h with
  | nil => exact .nil
  | cons hk hv _ ih => exact .cons (hk.mono hx) (hv.mono hx) ih

/-- what an object says of its place in a world -/
def ObjR (P : Program) (ρ : Rho) (B : Nat) (w : World) (o : AObj) (p : Place) : Prop :=
  match o with
  | .cells c rw => ∃ cc el fr, w.heap[p.blk]? = some (.cells cc el fr) ∧ p.base + p.room ≤ cc.size ∧ c.length ≤ p.room ∧
      (∀ k a, c[k]? = some a → ∃ v, cc[p.base + k]? = some v ∧ VR ρ a v) ∧
      (rw = true → B ≤ p.blk ∧ ∀ k, p.base ≤ k → k < p.base + p.room → ¬ (fr.1 ≤ k ∧ k < fr.2))
  | .map es => p.base = 0 ∧ p.room = 1 ∧ B ≤ p.blk ∧ ∃ ms ck, w.heap[p.blk]? = some (.map ms ck) ∧ EsR ρ es ms.toList
  | .loop _ tm ps a b st pend => p.base = 0 ∧ p.room = 1 ∧ B ≤ p.blk ∧ ∃ L, w.heap[p.blk]? = some (.loop L) ∧ VRs ρ tm L.tmps.toList ∧ L.params.toList = ps ∧
      tr P L.assign = some a ∧ tr P L.body = some b ∧ stateR st L.state ∧ pendR pend L.pending

theorem ObjR.mono {P : Program} {ρ ρ' : Rho} (hx : Ext ρ ρ') {B : Nat} {w : World} {o : AObj} {p : Place} (h : ObjR P ρ B w o p) : ObjR P ρ' B w o p := by
  cases o with
  | cells c rw =>
    obtain ⟨cc, el, fr, h1, h2, h3, h4, h5⟩ := h
    exact ⟨cc, el, fr, h1, h2, h3, fun k a hk => let ⟨v, hv, hr⟩ := h4 k a hk; ⟨v, hv, hr.mono hx⟩, h5⟩
  | map es =>
    obtain ⟨h1, h2, h3, ms, ck, h4, h5⟩ := h
    exact ⟨h1, h2, h3, ms, ck, h4, h5.mono hx⟩
  | loop fn tm ps a b st pend =>
    obtain ⟨h1, h2, h3, L, h4, h5, h6⟩ := h
    exact ⟨h1, h2, h3, L, h4, h5.mono hx, h6⟩

/-- an object speaks of its own block alone -/
theorem ObjR.same {P : Program} {ρ : Rho} {B : Nat} {w w' : World} {o : AObj} {p : Place} (hb : w'.heap[p.blk]? = w.heap[p.blk]?) (h : ObjR P ρ B w o p) : ObjR P ρ B w' o p := by
  cases o <;> simp only [ObjR, hb] at h ⊢ <;> exact h

theorem ObjR.lt {P : Program} {ρ : Rho} {B : Nat} {w : World} {o : AObj} {p : Place} (h : ObjR P ρ B w o p) : p.blk < w.heap.size := by
  cases o with
  | cells c rw => obtain ⟨cc, el, fr, h1, _⟩ := h; exact (Array.getElem?_eq_some_iff.1 h1).1
  | map es => obtain ⟨_, _, _, ms, ck, h1, _⟩ := h; exact (Array.getElem?_eq_some_iff.1 h1).1
  | loop fn tm ps a b st pend => obtain ⟨_, _, _, L, h1, _⟩ := h; exact (Array.getElem?_eq_some_iff.1 h1).1

theorem ObjR.base {P : Program} {ρ : Rho} {B : Nat} {w : World} {o : AObj} {p : Place} (h : ObjR P ρ B w o p) (hw : o.rw = true) : B ≤ p.blk := by
  cases o with
  | cells c rw => obtain ⟨cc, el, fr, _, _, _, _, h5⟩ := h; exact (h5 hw).1
  | map es => exact h.2.2.1
  | loop fn tm ps a b st pend => exact h.2.2.1

def Apart (p q : Place) : Prop := p.blk ≠ q.blk ∨ p.base + p.room ≤ q.base ∨ q.base + q.room ≤ p.base
theorem Apart.symm {p q : Place} (h : Apart p q) : Apart q p := by
  rcases h with h | h | h
  · exact .inl (Ne.symm h)
  · exact .inr (.inr h)
  · exact .inr (.inl h)

section
variable {h h' : AHeap}
/-- a heap whose numbers are all below 'next' -/
def Tidy (h : AHeap) : Prop := ∀ i, h.next ≤ i → h.get i = none
theorem Tidy.empty : Tidy .empty := fun _ _ => rfl
theorem Tidy.push (ht : Tidy h) (o : AObj) : Tidy (h.push o) := fun i hi => by
  simp at hi
  rw [AHeap.get_push_ne _ _ (by omega)]; exact ht i (by omega)
theorem Tidy.set (ht : Tidy h) {i : Nat} {o o' : AObj} (hi : h.get i = some o) : Tidy (h.set i o') := fun j hj => by
  simp at hj
  rw [AHeap.get_set_ne _ _ (fun e => by have := ht j hj; rw [e, hi] at this; cases this)]; exact ht j hj
theorem Tidy.del (ht : Tidy h) (i : Nat) : Tidy (h.del i) := fun j hj => by
  simp at hj
  rw [AHeap.get_del]; split
  · rfl
  · exact ht j hj

end

/-- a heap of the abstract machine and a world -/
structure Sim (P : Program) (ρ : Rho) (h : AHeap) (B : Nat) (w : World) : Prop where
  low : B ≤ w.heap.size
  dom : ∀ i p, ρ i = some p → i < h.next
  obj : ∀ i o p, h.get i = some o → ρ i = some p → ObjR P ρ B w o p
  sep : ∀ i j oi oj pi pj, i ≠ j → h.get i = some oi → h.get j = some oj → ρ i = some pi → ρ j = some pj → oi.rw = true → Apart pi pj
  tidy : Tidy h

/-- a block that no object of the heap may write -/
def Off (ρ : Rho) (h : AHeap) (b : Nat) : Prop := ∀ i o p, h.get i = some o → ρ i = some p → o.rw = true → p.blk ≠ b

/-- a step of both -/
structure Stp (P : Program) (B : Nat) (ρ : Rho) (h : AHeap) (w : World) (ρ' : Rho) (h' : AHeap) (w' : World) : Prop where
  ext : Ext ρ ρ'
  sim : Sim P ρ' h' B w'
  os : w'.os = w.os
  tape : w'.tape = w.tape
  output : w'.output = w.output
  size : w.heap.size ≤ w'.heap.size
  frame : ∀ b, b < w.heap.size → Off ρ h b → w'.heap[b]? = w.heap[b]?
  orig : ∀ i o p, h'.get i = some o → ρ' i = some p → o.rw = true → w.heap.size ≤ p.blk ∨ ∃ i0 o0 p0, h.get i0 = some o0 ∧ ρ i0 = some p0 ∧ o0.rw = true ∧ p0.blk = p.blk
  next : h.next ≤ h'.next
  fresh : ∀ i p, ρ' i = some p → ρ i = some p ∨ h.next ≤ i
  loops : ∀ (b : Nat) L, w.heap[b]? = some (.loop L) → ∃ L', w'.heap[b]? = some (.loop L')

theorem Stp.refl {P : Program} {B : Nat} {ρ : Rho} {h : AHeap} {w : World} (hs : Sim P ρ h B w) : Stp P B ρ h w ρ h w :=
  ⟨Ext.refl _, hs, rfl, rfl, rfl, Nat.le_refl _, fun _ _ _ => rfl, fun i o p h1 h2 h3 => .inr ⟨i, o, p, h1, h2, h3, rfl⟩, Nat.le_refl _, fun _ _ h => .inl h, fun _ L h => ⟨L, h⟩⟩

theorem Stp.trans {P : Program} {B : Nat} {ρ ρ1 ρ2 : Rho} {h h1 h2 : AHeap} {w w1 w2 : World} (a : Stp P B ρ h w ρ1 h1 w1) (b : Stp P B ρ1 h1 w1 ρ2 h2 w2) : Stp P B ρ h w ρ2 h2 w2 where
  ext := a.ext.trans b.ext
  sim := b.sim
  os := b.os.trans a.os
  tape := b.tape.trans a.tape
  output := b.output.trans a.output
  size := Nat.le_trans a.size b.size
  frame := fun k hk ho => by
    rw [b.frame k (Nat.lt_of_lt_of_le hk a.size) ?_, a.frame k hk ho]
    intro i o p h1 h2 h3 e
    subst e
    rcases a.orig i o p h1 h2 h3 with hge | ⟨i0, o0, p0, g1, g2, g3, g4⟩
    · omega
    · exact ho i0 o0 p0 g1 g2 g3 g4
  orig := fun i o p h1 h2 h3 => by
    rcases b.orig i o p h1 h2 h3 with hge | ⟨i0, o0, p0, g1, g2, g3, g4⟩
    · exact .inl (Nat.le_trans a.size hge)
    · rcases a.orig i0 o0 p0 g1 g2 g3 with hge | ⟨i1, o1, p1, k1, k2, k3, k4⟩
      · exact .inl (g4 ▸ hge)
      · exact .inr ⟨i1, o1, p1, k1, k2, k3, k4.trans g4⟩
  next := Nat.le_trans a.next b.next
  fresh := fun i p hi => by
    rcases b.fresh i p hi with h' | h'
    · exact a.fresh i p h'
    · exact .inr (Nat.le_trans a.next h')
  loops := fun k L h => let ⟨L1, h1⟩ := a.loops k L h; b.loops k L1 h1

/-- nothing below B has turned -/
theorem Stp.below {P : Program} {B : Nat} {ρ ρ' : Rho} {h h' : AHeap} {w w' : World} (s : Stp P B ρ h w ρ' h' w') (hs : Sim P ρ h B w) : RowKit.Below B w w' :=
  ⟨s.os, s.tape, s.output, s.size, fun k hk => s.frame k (Nat.lt_of_lt_of_le hk hs.low) fun i o p h1 h2 h3 e => by
    have := (hs.obj i o p h1 h2).base h3; omega⟩

/-- a draw turns nothing -/
theorem Sim.drew {P : Program} {ρ : Rho} {h : AHeap} {B : Nat} {w : World} (hs : Sim P ρ h B w) (n : Nat) : Sim P ρ h B { w with drawn := n } :=
  ⟨hs.low, hs.dom, fun i o p h1 h2 => (hs.obj i o p h1 h2).same rfl, hs.sep, hs.tidy⟩
theorem Stp.drew {P : Program} {B : Nat} {ρ ρ' : Rho} {h h' : AHeap} {w w' : World} (s : Stp P B ρ h w ρ' h' w') (n : Nat) : Stp P B ρ h w ρ' h' { w' with drawn := n } :=
  ⟨s.ext, s.sim.drew n, s.os, s.tape, s.output, s.size, s.frame, s.orig, s.next, s.fresh, s.loops⟩
theorem Stp.ofDrew {P : Program} {B : Nat} {ρ ρ' : Rho} {h h' : AHeap} {w w' : World} {n : Nat} (s : Stp P B ρ h { w with drawn := n } ρ' h' w') : Stp P B ρ h w ρ' h' w' :=
  ⟨s.ext, s.sim, s.os, s.tape, s.output, s.size, s.frame, s.orig, s.next, s.fresh, s.loops⟩

def upd (ρ : Rho) (i : Nat) (p : Place) : Rho := fun j => if j = i then some p else ρ j
theorem upd_self (ρ : Rho) (i : Nat) (p : Place) : upd ρ i p i = some p := by simp [upd]
theorem upd_ne (ρ : Rho) {i j : Nat} (p : Place) (h : j ≠ i) : upd ρ i p j = ρ j := by simp [upd, h]
theorem Ext.upd {ρ : Rho} {i : Nat} (p : Place) (h : ρ i = none) : Ext ρ (upd ρ i p) := fun j q hj => by
  by_cases e : j = i
  · subst e; rw [h] at hj; cases hj
  · rw [upd_ne _ _ e]; exact hj

/-- A NEW OBJECT: a new block. -/
theorem Sim.push {P : Program} {ρ : Rho} {h : AHeap} {B : Nat} {w : World} (hs : Sim P ρ h B w) (o : AObj) (b : Obj) (p : Place) (hp : p.blk = w.heap.size)
    (ho : ObjR P (upd ρ h.next p) B (w.alloc b) o p) : Stp P B ρ h w (upd ρ h.next p) (h.push o) (w.alloc b) := by
  have hnone : ρ h.next = none := by
    cases e : ρ h.next with
    | none => rfl
    | some q => exact absurd (hs.dom _ _ e) (Nat.lt_irrefl _)
  have hx : Ext ρ (upd ρ h.next p) := Ext.upd p hnone
  have hold : ∀ k, k < w.heap.size → (w.alloc b).heap[k]? = w.heap[k]? := fun k hk => RowKit.Below.heap_alloc w b k hk
  have hobj : ∀ i o' q, (h.push o).get i = some o' → upd ρ h.next p i = some q → ObjR P (upd ρ h.next p) B (w.alloc b) o' q := by
    intro i o' q h1 h2
    by_cases e : i = h.next
    · subst e
      rw [AHeap.get_push_same] at h1; rw [upd_self] at h2
      cases h1; cases h2; exact ho
    · rw [AHeap.get_push_ne _ _ e] at h1; rw [upd_ne _ _ e] at h2
      have := hs.obj i o' q h1 h2
      exact (this.same (hold _ this.lt)).mono hx
  refine ⟨hx, ⟨?_, ?_, hobj, ?_, hs.tidy.push _⟩, rfl, rfl, rfl, ?_, fun k hk _ => hold k hk, ?_, Nat.le_succ _, ?_, fun k L h => ⟨L, by rw [hold k (Array.getElem?_eq_some_iff.1 h).1]; exact h⟩⟩
  · have := hs.low; simp; omega
  · intro i q hi
    by_cases e : i = h.next
    · subst e; simp
    · rw [upd_ne _ _ e] at hi; have := hs.dom _ _ hi; simp; omega
  · intro i j oi oj pi pj hne h1 h2 h3 h4 h5
    by_cases ei : i = h.next
    · have ej : j ≠ h.next := fun e => hne (ei.trans e.symm)
      rw [AHeap.get_push_ne _ _ ej] at h2; rw [upd_ne _ _ ej] at h4
      rw [ei, upd_self] at h3; cases h3
      exact .inl (by have := (hs.obj j oj pj h2 h4).lt; omega)
    · by_cases ej : j = h.next
      · rw [AHeap.get_push_ne _ _ ei] at h1; rw [upd_ne _ _ ei] at h3
        rw [ej, upd_self] at h4; cases h4
        exact .inl (by have := (hs.obj i oi pi h1 h3).lt; omega)
      · rw [AHeap.get_push_ne _ _ ei] at h1; rw [upd_ne _ _ ei] at h3
        rw [AHeap.get_push_ne _ _ ej] at h2; rw [upd_ne _ _ ej] at h4
        exact hs.sep i j oi oj pi pj hne h1 h2 h3 h4 h5
  · simp
  · intro i o' q h1 h2 h3
    by_cases e : i = h.next
    · subst e; rw [upd_self] at h2; cases h2; exact .inl (by omega)
    · rw [AHeap.get_push_ne _ _ e] at h1; rw [upd_ne _ _ e] at h2
      exact .inr ⟨i, o', q, h1, h2, h3, rfl⟩
  · intro i q hi
    by_cases e : i = h.next
    · subst e; exact .inr (Nat.le_refl _)
    · rw [upd_ne _ _ e] at hi; exact .inl hi

end Go.AM
