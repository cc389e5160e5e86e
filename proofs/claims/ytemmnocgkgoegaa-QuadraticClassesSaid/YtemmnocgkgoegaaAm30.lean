/- Lists that grow by one element: what the heap holds. No condition. -/
import Derived.Test.YtemmnocgkgoegaaAm28
namespace Go.AM
open Go

theorem cellsOf_push_ne {h : AHeap} {o : AObj} {i : Nat} (hi : i < h.next) : cellsOf (h.push o) i = cellsOf h i := by
  unfold cellsOf; rw [AHeap.get_push_lt h o hi]
theorem cellsOf_push {h : AHeap} {c : List AV} {r : Bool} : cellsOf (h.push (.cells c r)) h.next = some c := by
  unfold cellsOf; rw [AHeap.get_push_same]
theorem cellsOf_get {h : AHeap} {i : Nat} {c : List AV} {r : Bool} (hg : h.get i = some (.cells c r)) : cellsOf h i = some c := by
  unfold cellsOf; rw [hg]
theorem cut_all : ∀ (l : List AV), cut l 0 l.length = some l
  | [] => rfl
  | x :: xs => by rw [List.length_cons, cut_cons, cut_all xs]
theorem cut_at : ∀ (l : List AV) (i : Nat) (x : AV), l[i]? = some x → cut l i 1 = some [x]
  | [], i, x, h => by simp at h
  | y :: ys, 0, x, h => by
    simp at h; subst h
    rw [cut_cons, cut_zero]
  | y :: ys, i + 1, x, h => by
    rw [cut_succ]; exact cut_at ys i x (by simpa using h)
theorem fit_at {l : List AV} {i : Nat} {x : AV} (h : l[i]? = some x) : fit none i l = some x := by
  show (match cut l i 1 with | some [v] => some v | _ => none) = _
  rw [cut_at l i x h]

/-- the value of 'append' -/
noncomputable def appV (sz bytes : Nat) (s x : AV) (h : AHeap) : Option (AV × AHeap) := evalE (.append sz bytes [] (.lit s) (.lit x)) (fun _ _ _ => none) [] h
theorem evalE_append {C : CallT} {tm : List AV} {h : AHeap} {sz bytes : Nat} {z : List AV} {s x : AOpd} : evalE (.append sz bytes z s x) C tm h = appV sz bytes (ev tm s) (ev tm x) h := rfl

/-- b is a slice with the elements L, nil where there are none; its object is new since h0, and what was there at h0 has not turned -/
structure LInv (h0 h : AHeap) (b : AV) (L : List AV) : Prop where
  le : h0.next ≤ h.next
  same : ∀ j, j < h0.next → h.get j = h0.get j
  val : (b = .nils ∧ L = []) ∨ ∃ i, b = .slice i 0 L.length (.opn 1) ∧ L ≠ [] ∧ h0.next ≤ i ∧ i < h.next ∧ h.get i = some (.cells L true)
theorem LInv.nil (h : AHeap) : LInv h h .nils [] := ⟨Nat.le_refl _, fun _ _ => rfl, .inl ⟨rfl, rfl⟩⟩
theorem LInv.cells {h0 h : AHeap} {b : AV} {L : List AV} (H : LInv h0 h b L) {i : Nat} (hi : i < h0.next) : cellsOf h i = cellsOf h0 i := by
  unfold cellsOf; rw [H.same i hi]
theorem LInv.push {h0 h : AHeap} {b : AV} {L : List AV} (H : LInv h0 h b L) (o : AObj) : LInv h0 (h.push o) b L := by
  refine ⟨Nat.le_succ_of_le H.le, fun j hj => ?_, ?_⟩
  · rw [AHeap.get_push_lt h o (Nat.lt_of_lt_of_le hj H.le)]; exact H.same j hj
  · rcases H.val with e | ⟨i, e1, e2, e3, e4, e5⟩
    · exact .inl e
    · exact .inr ⟨i, e1, e2, e3, Nat.lt_succ_of_lt e4, by rw [AHeap.get_push_lt h o e4]; exact e5⟩
theorem LInv.app {h0 h : AHeap} {b : AV} {L : List AV} (H : LInv h0 h b L) {bytes : Nat} {v : AV} (hv : v.scalar = true) (hb : (L.length + 1) * bytes ≤ 140737488355328) :
    ∃ b' h', appV 1 bytes b (.slice h.next 0 1 (.exact 1)) (h.push (.cells [v] true)) = some (b', h') ∧ LInv h0 h' b' (L ++ [v]) := by
  have hsrc : srcOf 1 (.slice h.next 0 1 (.exact 1)) (h.push (.cells [v] true)) = some (1, [v]) := by
    simp only [srcOf, cellsOf_push, Nat.mul_one, cut_cons, cut_zero]
    simp [hv]
  rcases H.val with ⟨e1, e2⟩ | ⟨i, e1, e2, e3, e4, e5⟩
  · subst e1; subst e2
    refine ⟨.slice (h.next + 1) 0 1 (.opn 1), (h.push (.cells [v] true)).push (.cells [v] true), ?_, Nat.le_succ_of_le (Nat.le_succ_of_le H.le), ?_, ?_⟩
    · unfold appV
      simp only [evalE, ev_lit, hsrc]
      simp only [List.length_nil] at hb
      rw [if_neg (by decide), if_pos (by omega)]
      rfl
    · intro j hj
      have h1 := H.le
      rw [AHeap.get_push_lt _ _ (show j < (h.push (.cells [v] true)).next by rw [AHeap.next_push]; omega), AHeap.get_push_lt _ _ (by omega)]
      exact H.same j hj
    · have h1 := H.le
      exact .inr ⟨h.next + 1, rfl, by simp, by omega, by simp, AHeap.get_push_same (h.push (.cells [v] true)) _⟩
  · subst e1
    have hown : ownOf (h.push (.cells [v] true)) i = some L := by
      unfold ownOf; rw [AHeap.get_push_lt _ _ e4, e5]
    have hd : drops L 0 = L := by cases L <;> rfl
    have hb' : (L.length + 1) * bytes ≤ 140737488355328 := hb
    have h1 := H.le
    refine ⟨.slice (h.next + 1) 0 (L.length + 1) (.opn 1), ((h.push (.cells [v] true)).del i).push (.cells (L ++ [v]) true), ?_, ?_, ?_, ?_⟩
    · unfold appV
      simp only [evalE, ev_lit, hsrc, hown]
      rw [if_pos ⟨trivial, hb'⟩, if_neg (by omega), if_pos (by omega), hd]
      rfl
    · show h0.next ≤ h.next + 1 + 1
      omega
    · intro j hj
      rw [AHeap.get_push_lt _ _ (show j < ((h.push (.cells [v] true)).del i).next by rw [AHeap.next_del, AHeap.next_push]; omega), AHeap.get_del_ne _ (by omega), AHeap.get_push_lt _ _ (by omega)]
      exact H.same j hj
    · refine .inr ⟨h.next + 1, by simp, by simp, by omega, by simp, ?_⟩
      exact AHeap.get_push_same ((h.push (.cells [v] true)).del i) _
/-- the slice's own reading -/
theorem LInv.toStr {h0 h : AHeap} {b : AV} {L : List AV} (H : LInv h0 h b L) {l : List Nat} (hl : bytesOf L = some l) {tm : List AV} {x : AOpd} (hx : ev tm x = b) : evalQ (.toStr x) tm h = some (.str l) := by
  rcases H.val with ⟨e1, e2⟩ | ⟨i, e1, e2, e3, e4, e5⟩
  · subst e1; subst e2
    cases hl
    simp only [evalQ, hx]
  · subst e1
    simp only [evalQ, hx, cellsOf_get e5, cut_all, hl]
theorem LInv.lenV {h0 h : AHeap} {b : AV} {L : List AV} (H : LInv h0 h b L) : AM.lenV 1 b h = some (.int .i64 (L.length : Int)) := by
  rcases H.val with ⟨e1, e2⟩ | ⟨i, e1, e2, e3, e4, e5⟩
  · subst e1; subst e2; rfl
  · subst e1; rfl
end Go.AM
