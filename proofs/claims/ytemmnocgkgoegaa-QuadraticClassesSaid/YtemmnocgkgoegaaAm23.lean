/- Runs that speak of no references: their answers may stand for the calls. No condition. -/
import Derived.Test.YtemmnocgkgoegaaAm22
namespace Go.AM
open Go

mutual
/-- a value that bears no reference -/
def AV.plain : AV → Bool
  | .int _ _ => true
  | .bool _ => true
  | .str _ => true
  | .nilp => true
  | .nils => true
  | .nilm => true
  | .nilf => true
  | .nili => true
  | .agg cs => AV.plains cs
  | .tup cs => AV.plains cs
  | _ => false
def AV.plains : List AV → Bool
  | [] => true
  | x :: r => AV.plain x && AV.plains r
end

mutual
theorem plain_VR {ρ ρ' : Rho} : ∀ {a : AV} {v : Value}, AV.plain a = true → VR ρ a v → VR ρ' a v
  | _, _, _, .int k n => .int k n
  | _, _, _, .bool b => .bool b
  | _, _, _, .str h => .str h
  | _, _, _, .nilp => .nilp
  | _, _, _, .nils => .nils
  | _, _, _, .nilm => .nilm
  | _, _, _, .nilf => .nilf
  | _, _, _, .nili => .nili
  | _, _, hp, .agg h => .agg (plains_VR (by simpa [AV.plain] using hp) h)
  | _, _, hp, .tup h => .tup (plains_VR (by simpa [AV.plain] using hp) h)
theorem plains_VR {ρ ρ' : Rho} : ∀ {a : List AV} {v : List Value}, AV.plains a = true → VRs ρ a v → VRs ρ' a v
  | _, _, _, .nil => .nil
  | _, _, hp, .cons h hs => by
    simp only [AV.plains, Bool.and_eq_true] at hp
    exact .cons (plain_VR hp.1 h) (plains_VR hp.2 hs)
end

theorem plains_noyield : ∀ {l : List AV}, AV.plains l = true → ∀ i, AV.fn (.yield i) [] [] ∉ l
  | [], _, i, h => by cases h
  | x :: r, hp, i, h => by
    simp only [AV.plains, Bool.and_eq_true] at hp
    rcases List.mem_cons.1 h with e | e
    · subst e; simp [AV.plain] at hp
    · exact plains_noyield hp.2 i e

theorem IOK.none {P : Program} : IOK P fun _ _ _ => none := ⟨(fun g args av h h' he => by cases he), (fun g args r h he => by cases he)⟩

/-- answers without references: they leave the machine's heap as it is -/
def ext (I : Oracle) (g : Nat) (spec : List AV → Option AV) : Oracle := fun f args h => bif Nat.beq f g then (match spec args with | some av => some (av, h) | none => I f args h) else I f args h

section
variable {P : Program} {T : FnTab} {I : Oracle}

/-- below the heap's end nothing has turned: a step that the machine does not see -/
theorem Stp.ofBelow {B : Nat} {ρ : Rho} {h : AHeap} {w w' : World} (hs : Sim P ρ h B w) (hb : RowKit.Below w.heap.size w w') : Stp P B ρ h w ρ h w' := by
  obtain ⟨h1, h2, h3, h4, h5⟩ := hb
  refine ⟨Ext.refl _, ⟨Nat.le_trans hs.low h4, hs.dom, fun i o p e1 e2 => (hs.obj i o p e1 e2).same (h5 _ (hs.obj i o p e1 e2).lt), hs.sep, hs.tidy⟩, h1, h2, h3, h4, fun k hk _ => h5 k hk, fun i o p e1 e2 e3 => .inr ⟨i, o, p, e1, e2, e3, rfl⟩, Nat.le_refl _, fun _ _ h => .inl h, fun k L hL => ⟨L, ?_⟩⟩
  rw [h5 k (Array.getElem?_eq_some_iff.1 hL).1]; exact hL

theorem upon_of_calls {f : FuncId} {args : Array Value} {w : World} {K : Value → World → Prop} {r : Result Next} (hr : r = .ok (.enter f args) w) (h : Calls P f args w fun e w' => ∃ v, e = .returned v ∧ K v w') : Upon P r K := by
  rw [hr]
  show CallsIn Fence.wide 0 P f args w _
  rw [callsIn_wide]; exact h

theorem IOK.extend (hm : P.follows .mixedOrders = true) (hT : TabOK P T) (hI : IOK P I) {g : Nat} {fn : AFn} (hg : T g = some fn) {spec : List AV → Option AV}
    (hsp : ∀ args av, spec args = some av → AV.plains args = true ∧ AV.plain av = true ∧ ∃ n h', callF T I n (.fn g) args .empty = some (av, h')) : IOK P (ext I g spec) := by
  refine ⟨?_, ?_⟩
  · intro f args av h h' he ρ B w args' hs ha
    unfold ext at he
    cases hf : Nat.beq f g with
    | false => rw [hf] at he; exact hI.sound f args av h h' he ρ B w args' hs ha
    | true =>
      have e := Nat.eq_of_beq_eq_true hf
      subst e
      rw [hf] at he
      simp only [cond_true] at he
      split at he
      · rename_i av' hav
        cases he
        obtain ⟨p1, p2, n, h2, hrun⟩ := hsp _ _ hav
        have hc := calls_of_callF hm hT hI hrun (plains_VR p1 ha) hg w
        obtain ⟨F, f1, f2, f3⟩ := hT _ _ hg
        unfold trFn at f2
        split at f2 <;> first | (cases f2; done) | skip
        rename_i c hb
        refine upon_of_calls (callFunc_enter f1 f3 hb args' w) ?_
        intro cs
        obtain ⟨e, w', fr, ⟨⟨v, ρ', e1, e2⟩, e3⟩, rest⟩ := hc cs
        exact ⟨e, w', fr, ⟨v, e1, ρ, plain_VR p2 e2, Stp.ofBelow hs e3⟩, rest⟩
      · exact hI.sound _ args av h h' he ρ B w args' hs ha
  · intro f args r h he l
    unfold ext at he
    cases hf : Nat.beq f g with
    | false => rw [hf] at he; exact hI.plain f args r h he l
    | true =>
      rw [hf] at he
      simp only [cond_true] at he
      split at he
      · rename_i av' hav
        exact plains_noyield (hsp _ _ hav).1 l
      · exact hI.plain f args r h he l

/-- THE ANSWER OF A CALL, at arguments without references. -/
theorem calls_plain (hm : P.follows .mixedOrders = true) (hT : TabOK P T) (hI : IOK P I) {n f : Nat} {args : List AV} {args' : Array Value} {b : Bool} {h' : AHeap} (he : callF T I n (.fn f) args .empty = some (.bool b, h'))
    (ha : VRs (fun _ => none) args args'.toList) {fn : AFn} (hf : T f = some fn) (w : World) : Calls P f args' w fun e w' => e = .returned (.bool b) ∧ RowKit.Below w.heap.size w w' := by
  intro cs
  obtain ⟨e, w', fr, ⟨⟨v, ρ', e1, e2⟩, e3⟩, rest⟩ := calls_of_callF hm hT hI he ha hf w cs
  refine ⟨e, w', fr, ⟨?_, e3⟩, rest⟩
  rw [e1]; cases e2; rfl

end
end Go.AM

namespace Go.AM
open Go
/-- a table of functions -/
inductive Tb where
  | no
  | one (k : Nat) (f : AFn)
  | br (k : Nat) (l r : Tb)
noncomputable def Tb.get (t : Tb) : FnTab :=
  Tb.rec (motive := fun _ => Nat → Option AFn) (fun _ => none) (fun k f i => Bool.rec (motive := fun _ => Option AFn) none (some f) (Nat.beq i k)) (fun k _ _ l r i => Bool.rec (motive := fun _ => Option AFn) (r i) (l i) (Nat.blt i k)) t
def FnOK (P : Program) (f : Nat) (fn : AFn) : Prop := ∃ F, P.funcs[f]? = some F ∧ trFn P F = some fn ∧ (F.name == "runtime.NumGoroutine") = false
def Tb.OK (P : Program) : Tb → Prop
  | .no => True
  | .one k f => FnOK P k f
  | .br _ l r => Tb.OK P l ∧ Tb.OK P r
theorem Tb.ok {P : Program} : ∀ {t : Tb}, t.OK P → TabOK P t.get
  | .no, _, f, fn, h => by cases h
  | .one k g, hk, f, fn, h => by
    have h' : Bool.rec (motive := fun _ => Option AFn) none (some g) (Nat.beq f k) = some fn := h
    cases hb : Nat.beq f k with
    | false => rw [hb] at h'; cases h'
    | true =>
      rw [hb] at h'
      cases h'
      rw [Nat.eq_of_beq_eq_true hb]; exact hk
  | .br k l r, hk, f, fn, h => by
    have h' : Bool.rec (motive := fun _ => Option AFn) (r.get f) (l.get f) (Nat.blt f k) = some fn := h
    cases hb : Nat.blt f k with
    | false => rw [hb] at h'; exact Tb.ok hk.2 f fn h'
    | true => rw [hb] at h'; exact Tb.ok hk.1 f fn h'
end Go.AM
