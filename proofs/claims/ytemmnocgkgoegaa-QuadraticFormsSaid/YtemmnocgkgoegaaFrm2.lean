/- The list of reduced forms: the loops of the program and of the reference. No condition. -/
import Derived.Test.YtemmnocgkgoegaaFrm
set_option maxRecDepth 100000
set_option linter.unusedSimpArgs false
namespace Go.AM
open Go
section
variable {C : CallT} {K : List Fr} {Q : AX → St → Prop} {op : AOp} {m : Nat} {d : Option Nat} {r : List (AOper × Nat)} {ps : List ((AHeap → Bool) × Nat)} {tm : List AV} {h : AHeap}
def dgLow (op : AOp) (ps : List ((AHeap → Bool) × Nat)) : List ((AHeap → Bool) × Nat) := match op.cls with | .e => lower ps | _ => ps
def DG (C : CallT) (v : AV) (b : Bool) (d : Option Nat) (op : AOp) (m : Nat) (r : List (AOper × Nat)) (ps : List ((AHeap → Bool) × Nat)) (K : List Fr) (tm : List AV) (h : AHeap) (Q : AX → St → Prop) : Prop := match v with
  | .bool c => if (c == b) = true then WDs C ((⟨d, op, none⟩, m) :: r) ps K ⟨tm, h⟩ Q else WDs C r (dgLow op ps) K ⟨putD tm d aundef, h⟩ Q
  | _ => WDs C r (dgLow op ps) K ⟨putD tm d aundef, h⟩ Q
theorem DG_tt : DG C (.bool true) true d op m r ps K tm h Q ↔ WDs C ((⟨d, op, none⟩, m) :: r) ps K ⟨tm, h⟩ Q := by simp [DG]
theorem DG_ff : DG C (.bool false) false d op m r ps K tm h Q ↔ WDs C ((⟨d, op, none⟩, m) :: r) ps K ⟨tm, h⟩ Q := by simp [DG]
theorem DG_ft : DG C (.bool false) true d op m r ps K tm h Q ↔ WDs C r (dgLow op ps) K ⟨putD tm d aundef, h⟩ Q := by simp [DG]
theorem DG_tf : DG C (.bool true) false d op m r ps K tm h Q ↔ WDs C r (dgLow op ps) K ⟨putD tm d aundef, h⟩ Q := by simp [DG]
theorem DGs {t : Nat} {b : Bool} : WDs C ((⟨d, op, some (t, b)⟩, m) :: r) ps K ⟨tm, h⟩ Q ↔ DG C (nth tm t) b d op m r ps K tm h Q := by
  have e : runDraw ((⟨d, op, some (t, b)⟩, m) :: r) C ⟨tm, h⟩ ps = if wanted tm (some (t, b)) = true then runDraw ((⟨d, op, none⟩, m) :: r) C ⟨tm, h⟩ ps else runDraw r C ⟨putD tm d aundef, h⟩ (dgLow op ps) := by
    rw [runDraw_cons, runDraw_cons]
    by_cases hw : wanted tm (some (t, b)) = true
    · rw [if_pos hw, if_pos hw, if_pos (show wanted tm none = true from rfl)]
      cases hc : op.cls with
      | q => rw [step1_q hc, step1_q hc]; rfl
      | a => rw [step1_a hc, step1_a hc]; rfl
      | e => rw [step1_e hc, step1_e hc]
    · rw [if_neg hw, if_neg hw]; rfl
  have e2 : wanted tm (some (t, b)) = (match nth tm t with | .bool c => c == b | _ => false) := rfl
  unfold WDs
  rw [e, e2]
  generalize nth tm t = v
  cases v with
  | bool c =>
    show (∃ s', (if (c == b) = true then _ else _) = some s' ∧ _) ↔ (if (c == b) = true then _ else _)
    by_cases hc : (c == b) = true
    · rw [if_pos hc, if_pos hc]; exact Iff.rfl
    · rw [if_neg hc, if_neg hc]; exact Iff.rfl
  | _ => exact Iff.rfl
end
abbrev fCq (f : F3) : List AV := fC f.1 f.2.1 f.2.2
abbrev fVq (f : F3) : AV := fV f.1 f.2.1 f.2.2
def flat3 : List F3 → List AV
  | [] => []
  | f :: r => fCq f ++ flat3 r
theorem flat3_app : ∀ (l : List F3) (f : F3), flat3 (l ++ [f]) = flat3 l ++ fCq f
  | [], f => by show fCq f ++ [] = _; simp [flat3]
  | g :: r, f => by show fCq g ++ flat3 (r ++ [f]) = _; rw [flat3_app r f, ← List.append_assoc]; rfl
theorem flat3_len : ∀ l : List F3, (flat3 l).length = 3 * l.length
  | [] => rfl
  | f :: r => by show (fCq f ++ flat3 r).length = _; rw [List.length_append, flat3_len r]; simp; omega
/-- b is a slice of the forms L, its object new since h0 -/
structure LI (h0 h : AHeap) (b : AV) (L : List F3) : Prop where
  le : h0.next ≤ h.next
  same : ∀ j, j < h0.next → h.get j = h0.get j
  val : (b = .nils ∧ L = []) ∨ ∃ i, b = .slice i 0 L.length (.opn 3) ∧ L ≠ [] ∧ h0.next ≤ i ∧ i < h.next ∧ h.get i = some (.cells (flat3 L) true)
theorem LI.nil (h : AHeap) : LI h h .nils [] := ⟨Nat.le_refl _, fun _ _ => rfl, .inl ⟨rfl, rfl⟩⟩
theorem LI.push {h0 h : AHeap} {b : AV} {L : List F3} (H : LI h0 h b L) (o : AObj) : LI h0 (h.push o) b L := by
  refine ⟨Nat.le_succ_of_le H.le, fun j hj => ?_, ?_⟩
  · rw [AHeap.get_push_lt h o (Nat.lt_of_lt_of_le hj H.le)]; exact H.same j hj
  · rcases H.val with e | ⟨i, e1, e2, e3, e4, e5⟩
    · exact .inl e
    · exact .inr ⟨i, e1, e2, e3, Nat.lt_succ_of_lt e4, by rw [AHeap.get_push_lt h o e4]; exact e5⟩
/-- an object above is written -/
theorem LI.set {h0 h : AHeap} {b : AV} {L : List F3} (H : LI h0 h b L) (o o' : AObj) : LI h0 ((h.push o).set h.next o') b L := by
  have hle := H.le
  refine ⟨Nat.le_succ_of_le H.le, fun j hj => ?_, ?_⟩
  · rw [AHeap.get_set_ne _ _ (by omega), AHeap.get_push_lt h o (by omega)]; exact H.same j hj
  · rcases H.val with e | ⟨i, e1, e2, e3, e4, e5⟩
    · exact .inl e
    · exact .inr ⟨i, e1, e2, e3, Nat.lt_succ_of_lt e4, by rw [AHeap.get_set_ne _ _ (by omega), AHeap.get_push_lt h o e4]; exact e5⟩
theorem LI.app {h0 h : AHeap} {b : AV} {L : List F3} (H : LI h0 h b L) (f : F3) (hb : L.length ≤ 1000000) :
    ∃ b' h', appV 3 24 b (.slice h.next 0 1 (.exact 1)) (h.push (.cells (fCq f) true)) = some (b', h') ∧ LI h0 h' b' (L ++ [f]) := by
  have hsrc : srcOf 3 (.slice h.next 0 1 (.exact 1)) (h.push (.cells (fCq f) true)) = some (1, fCq f) := by
    simp only [srcOf, cellsOf_push]
    have : cut (fCq f) 0 (1 * 3) = some (fCq f) := cut_all (fCq f)
    rw [this]; rfl
  have h1 := H.le
  rcases H.val with ⟨e1, e2⟩ | ⟨i, e1, e2, e3, e4, e5⟩
  · subst e1; subst e2
    refine ⟨.slice (h.next + 1) 0 1 (.opn 3), (h.push (.cells (fCq f) true)).push (.cells (fCq f) true), ?_, Nat.le_succ_of_le (Nat.le_succ_of_le H.le), ?_, ?_⟩
    · unfold appV
      simp only [evalE, ev_lit, hsrc]
      rw [if_neg (by decide), if_pos (by decide)]
      rfl
    · intro j hj
      rw [AHeap.get_push_lt _ _ (show j < (h.push (.cells (fCq f) true)).next by rw [AHeap.next_push]; omega), AHeap.get_push_lt _ _ (by omega)]
      exact H.same j hj
    · exact .inr ⟨h.next + 1, rfl, by simp, by omega, by simp, AHeap.get_push_same (h.push (.cells (fCq f) true)) _⟩
  · subst e1
    have hown : ownOf (h.push (.cells (fCq f) true)) i = some (flat3 L) := by
      unfold ownOf; rw [AHeap.get_push_lt _ _ e4, e5]
    have hd : drops (flat3 L) 0 = flat3 L := by cases flat3 L <;> rfl
    have hl := flat3_len L
    refine ⟨.slice (h.next + 1) 0 (L.length + 1) (.opn 3), ((h.push (.cells (fCq f) true)).del i).push (.cells (flat3 (L ++ [f])) true), ?_, ?_, ?_, ?_⟩
    · unfold appV
      simp only [evalE, ev_lit, hsrc, hown]
      rw [if_pos ⟨trivial, by omega⟩, if_neg (by omega), if_pos (by omega), hd, flat3_app]
      rfl
    · show h0.next ≤ h.next + 1 + 1
      omega
    · intro j hj
      rw [AHeap.get_push_lt _ _ (show j < ((h.push (.cells (fCq f) true)).del i).next by rw [AHeap.next_del, AHeap.next_push]; omega), AHeap.get_del_ne _ (by omega), AHeap.get_push_lt _ _ (by omega)]
      exact H.same j hj
    · refine .inr ⟨h.next + 1, by simp, by simp, by omega, by simp, ?_⟩
      exact AHeap.get_push_same ((h.push (.cells (fCq f) true)).del i) _
theorem bslice3f {tm : List AV} {h : AHeap} {x : AOpd} {f : F3} {z0 z1 z2 : AV} (hx : ev tm x = fVq f) : evalA (.bslice 1 3 [z0, z1, z2] [(0, x)]) tm h = some (.cells (fCq f) true, .slice h.next 0 1 (.exact 1)) := by
  simp only [evalA, fillsS, hx]; rfl
/-- the form with a and b, where there is one -/
def itemL (d : Int) (a : Nat) (b : Int) : List F3 := if (b * b - d) % (4 * (a : Int)) = 0 then (if isRed ((a : Int), b, (b * b - d) / (4 * (a : Int))) ∧ g3 a b ((b * b - d) / (4 * (a : Int))) = 1 then [((a : Int), b, (b * b - d) / (4 * (a : Int)))] else []) else []
def rowF (d : Int) (a : Nat) : Nat → Int → List F3 → List F3
  | 0, _, L => L
  | f + 1, b, L => rowF d a f (b + 1) (L ++ itemL d a b)
def lstF (d : Int) : Nat → Nat → List F3 → List F3
  | 0, _, L => L
  | f + 1, a, L => if 3 * a * a ≤ (-d).toNat then lstF d f (a + 1) (rowF d a (2 * a + 1) (-(a : Int)) L) else L
theorem itemL_len (d : Int) (a : Nat) (b : Int) : (itemL d a b).length ≤ 1 := by
  unfold itemL; split
  · split <;> simp
  · simp
end Go.AM
