/- Reading and writing the cells of an object: on the machine's rows and in the world. No condition. -/
import Derived.Test.YtemmnocgkgoegaaAm3
import Derived.Laws.Cells
namespace Go.AM
open Go

theorem cut_spec {l r : List AV} : ∀ {o n : Nat}, cut l o n = some r → r.length = n ∧ o + n ≤ l.length ∧ ∀ k, k < n → r[k]? = l[o + k]? := by
  induction l generalizing r with
  | nil =>
    intro o n h
    rw [cut_nil] at h
    by_cases hc : o = 0 ∧ n = 0
    · rw [if_pos hc] at h; cases h; obtain ⟨rfl, rfl⟩ := hc; simp
    · rw [if_neg hc] at h; cases h
  | cons x xs ih =>
    intro o n h
    cases o with
    | zero =>
      cases n with
      | zero => rw [cut_zero] at h; cases h; simp
      | succ n =>
        rw [cut_cons] at h
        cases hc : cut xs 0 n with
        | none => rw [hc] at h; cases h
        | some r' =>
          rw [hc] at h; cases h
          obtain ⟨h1, h2, h3⟩ := ih hc
          refine ⟨by simp [h1], by simp at h2 ⊢; omega, fun k hk => ?_⟩
          cases k with
          | zero => simp
          | succ k => have := h3 k (by omega); simpa using this
    | succ o =>
      rw [cut_succ] at h
      obtain ⟨h1, h2, h3⟩ := ih h
      exact ⟨h1, by simp; omega, fun k hk => by rw [h3 k hk, show o + 1 + k = (o + k) + 1 by omega]; simp⟩

theorem cut_some {l : List AV} : ∀ {o n : Nat}, o + n ≤ l.length → cut l o n = some ((l.drop o).take n) := by
  induction l with
  | nil => intro o n h; simp at h; rw [cut_nil, if_pos h]; simp
  | cons x xs ih =>
    intro o n h
    cases o with
    | zero =>
      cases n with
      | zero => rw [cut_zero]; simp
      | succ n => rw [cut_cons, ih (by simp at h ⊢; omega)]; simp
    | succ o => rw [cut_succ, ih (by simp at h; omega)]; simp
theorem cut_eq {l r : List AV} {o n : Nat} (h : cut l o n = some r) : o + n ≤ l.length ∧ r = (l.drop o).take n := by
  have h2 := (cut_spec h).2.1
  rw [cut_some h2] at h
  exact ⟨h2, (Option.some.inj h).symm⟩

theorem lay_spec {l l' : List AV} : ∀ {o : Nat} {vs : List AV}, lay l o vs = some l' → l'.length = l.length ∧ o + vs.length ≤ l.length ∧
    ∀ k : Nat, l'[k]? = if o ≤ k ∧ k < o + vs.length then vs[k - o]? else l[k]? := by
  induction l generalizing l' with
  | nil =>
    intro o vs h
    rw [lay_nil] at h
    by_cases hc : o = 0 ∧ vs = []
    · rw [if_pos hc] at h; cases h; obtain ⟨rfl, rfl⟩ := hc; simp
    · rw [if_neg hc] at h; cases h
  | cons x xs ih =>
    intro o vs h
    cases o with
    | zero =>
      cases vs with
      | nil => rw [lay_zero] at h; cases h; refine ⟨rfl, by simp, fun k => ?_⟩; rw [if_neg (by simp)]
      | cons v vs =>
        rw [lay_cons] at h
        cases hc : lay xs 0 vs with
        | none => rw [hc] at h; cases h
        | some r =>
          rw [hc] at h; cases h
          obtain ⟨h1, h2, h3⟩ := ih hc
          refine ⟨by simp [h1], by simp at h2 ⊢; omega, fun k => ?_⟩
          cases k with
          | zero => simp
          | succ k =>
            have := h3 k
            simp only [Nat.zero_le, true_and, Nat.zero_add, Nat.sub_zero, List.getElem?_cons_succ, List.length_cons] at this ⊢
            rw [this]
            by_cases hk : k < vs.length
            · rw [if_pos hk, if_pos (by omega)]
            · rw [if_neg hk, if_neg (by omega)]
    | succ o =>
      rw [lay_succ] at h
      cases hc : lay xs o vs with
      | none => rw [hc] at h; cases h
      | some r =>
        rw [hc] at h; cases h
        obtain ⟨h1, h2, h3⟩ := ih hc
        refine ⟨by simp [h1], by simp; omega, fun k => ?_⟩
        cases k with
        | zero => simp
        | succ k =>
          have := h3 k
          simp only [List.getElem?_cons_succ]
          rw [this]
          by_cases hk : o ≤ k ∧ k < o + vs.length
          · rw [if_pos hk, if_pos (by omega), show k + 1 - (o + 1) = k - o by omega]
          · rw [if_neg hk, if_neg (by omega)]

theorem lay_some {l : List AV} : ∀ {o : Nat} {vs : List AV}, o + vs.length ≤ l.length → ∃ l', lay l o vs = some l' := by
  induction l with
  | nil => intro o vs h; simp at h; refine ⟨[], ?_⟩; rw [lay_nil, if_pos]; exact h
  | cons x xs ih =>
    intro o vs h
    cases o with
    | zero =>
      cases vs with
      | nil => exact ⟨_, lay_zero _⟩
      | cons v vs =>
        obtain ⟨r, hr⟩ := ih (o := 0) (vs := vs) (by simp at h ⊢; omega)
        exact ⟨v :: r, by rw [lay_cons, hr]⟩
    | succ o =>
      obtain ⟨r, hr⟩ := ih (o := o) (vs := vs) (by simp at h; omega)
      exact ⟨x :: r, by rw [lay_succ, hr]⟩

theorem drops_eq (l : List AV) (n : Nat) : drops l n = l.drop n := by
  induction l generalizing n with
  | nil => cases n <;> simp [drops]
  | cons x xs ih => cases n <;> simp [drops, ih]

theorem Addr.add_plain (b o n : Nat) : (⟨b, o, none⟩ : Addr).add n = ⟨b, o + n, none⟩ := by
  unfold Addr.add; split
  · rename_i h; subst h; rfl
  · rfl

/-- a cell of a row in the world -/
theorem cell_of_block {w : World} {b : Nat} {cc : Array Value} {el : TypeId} {fr : Nat × Nat} (h : w.heap[b]? = some (.cells cc el fr)) (k : Nat) : w.cell? ⟨b, k, none⟩ = cc[k]? := by
  simp [World.cell?, h]

/-- READING: the cells of a cut. -/
theorem read_cut {P : Program} {ρ : Rho} {h : AHeap} {B : Nat} {w : World} (hs : Sim P ρ h B w) {i : Nat} {c r : List AV} {rw' : Bool} {p : Place} {o n : Nat}
    (hg : h.get i = some (.cells c rw')) (hp : ρ i = some p) (hc : cut c o n = some r) :
    ∃ vs : List Value, vs.length = n ∧ VRs ρ r vs ∧ (∀ (j : Nat) v, vs[j]? = some v → w.cell? ⟨p.blk, p.base + o + j, none⟩ = some v) := by
  obtain ⟨cc, el, fr, h1, h2, h3, h4, h5⟩ := hs.obj i _ p hg hp
  obtain ⟨g1, g2, g3⟩ := cut_spec hc
  have hj : ∀ j, j < n → ∃ a v, r[j]? = some a ∧ cc[p.base + o + j]? = some v ∧ VR ρ a v := by
    intro j hj
    have hlt : o + j < c.length := by omega
    obtain ⟨v, hv, hr⟩ := h4 (o + j) _ (List.getElem?_eq_getElem hlt)
    exact ⟨_, v, (g3 j hj).trans (List.getElem?_eq_getElem hlt), by rw [Nat.add_assoc]; exact hv, hr⟩
  refine ⟨(List.range n).map fun j => cc.getD (p.base + o + j) undef, by simp, ?_, ?_⟩
  · refine VRs.of_get (by simp [g1]) fun k x y hx hy => ?_
    have hk : k < n := by rw [← g1]; exact (List.getElem?_eq_some_iff.1 hx).1
    obtain ⟨a, v, e1, e2, e3⟩ := hj k hk
    rw [hx] at e1; cases e1
    simp [hk, Array.getD_eq_getD_getElem?, e2] at hy
    subst hy; exact e3
  · intro j v hv
    have hk : j < n := by have := (List.getElem?_eq_some_iff.1 hv).1; simpa using this
    obtain ⟨a, u, e1, e2, e3⟩ := hj j hk
    simp [hk, Array.getD_eq_getD_getElem?, e2] at hv
    subst hv
    rw [cell_of_block h1, e2]

theorem run_loadCells_of {P : Program} {w : World} {b o : Nat} {vs : List Value} (h : ∀ (j : Nat) v, vs[j]? = some v → w.cell? ⟨b, o + j, none⟩ = some v) :
    (loadCells ⟨b, o, none⟩ vs.length).run P w = .ok vs.toArray w :=
  run_loadCells_list w ⟨b, o, none⟩ vs fun j v hv => by rw [Addr.add_plain]; exact h j v hv

/-- a row with values laid over it -/
def over (cc : Array Value) (o : Nat) : List Value → Array Value
  | [] => cc
  | v :: vs => over (cc.setIfInBounds o v) (o + 1) vs
theorem over_size (cc : Array Value) (o : Nat) (vs : List Value) : (over cc o vs).size = cc.size := by
  induction vs generalizing cc o with
  | nil => rfl
  | cons v vs ih => simp [over, ih]
theorem over_get (vs : List Value) : ∀ (cc : Array Value) (o k : Nat), o + vs.length ≤ cc.size → (over cc o vs)[k]? = if o ≤ k ∧ k < o + vs.length then vs[k - o]? else cc[k]? := by
  induction vs with
  | nil => intro cc o k _; simp only [over, List.length_nil]; rw [if_neg (by omega)]
  | cons v vs ih =>
    intro cc o k h
    simp only [List.length_cons] at h
    rw [over, ih _ _ _ (by simp; omega)]
    by_cases h1 : o + 1 ≤ k ∧ k < o + 1 + vs.length
    · rw [if_pos h1, if_pos (by simp; omega), show k - o = (k - (o + 1)) + 1 by omega]; simp
    · rw [if_neg h1]
      by_cases h2 : k = o
      · subst h2
        rw [if_pos (by simp), Array.getElem?_setIfInBounds_self]; simp; omega
      · rw [if_neg (by simp; omega), Array.getElem?_setIfInBounds_ne (Ne.symm h2)]

/-- the world with a block exchanged -/
def putRowW (w : World) (b : Nat) (o : Obj) : World := { w with heap := w.heap.setIfInBounds b o }

theorem putRowW_self {w : World} {b : Nat} {o : Obj} (h : w.heap[b]? = some o) : putRowW w b o = w := by
  unfold putRowW
  have : w.heap.setIfInBounds b o = w.heap := by
    apply Array.ext (by simp)
    intro k h1 h2
    have h3 := (Array.getElem?_eq_some_iff.1 h).2
    rw [Array.getElem_setIfInBounds]
    split
    · rename_i e; subst e; exact h3.symm
    · rfl
  rw [this]
theorem putRowW_twice {w : World} {b : Nat} {o o' : Obj} : putRowW (putRowW w b o) b o' = putRowW w b o' := by
  simp [putRowW]

/-- WRITING: cells that are there and not frozen. -/
theorem run_storeCells_over {P : Program} {b : Nat} {el : TypeId} {fr : Nat × Nat} (o : Nat) : ∀ (vs : List Value) (i : Nat) (cc : Array Value) (w : World),
    w.heap[b]? = some (.cells cc el fr) → o + i + vs.length ≤ cc.size → (∀ v ∈ vs, v.oneCell' = true) → (∀ k, o + i ≤ k → k < o + i + vs.length → ¬ (fr.1 ≤ k ∧ k < fr.2)) →
    (storeCells ⟨b, o, none⟩ vs i).run P w = .ok () (putRowW w b (.cells (over cc (o + i) vs) el fr)) := by
  intro vs
  induction vs with
  | nil =>
    intro i cc w hb _ _ _
    simp only [storeCells, Sem.run_pure, over]
    rw [putRowW_self hb]
  | cons v vs ih =>
    intro i cc w hb hsz hone hfr
    simp only [List.length_cons] at hsz hfr
    have hlt := (Array.getElem?_eq_some_iff.1 hb).1
    have hcell : w.cell? ((⟨b, o, none⟩ : Addr).add i) = some cc[o + i] := by rw [Addr.add_plain, cell_of_block hb]; exact Array.getElem?_eq_getElem (by omega)
    have hfz : w.frozen? ((⟨b, o, none⟩ : Addr).add i) = false := by
      rw [Addr.add_plain]
      have := hfr (o + i) (Nat.le_refl _) (by omega)
      simp only [World.frozen?, hb]
      simp only [Bool.and_eq_false_iff, decide_eq_false_iff_not]
      by_cases h1 : fr.1 ≤ o + i
      · exact .inr fun h2 => this ⟨h1, h2⟩
      · exact .inl h1
    have hset : w.setCell ((⟨b, o, none⟩ : Addr).add i) v = putRowW w b (.cells (cc.setIfInBounds (o + i) v) el fr) := by
      rw [Addr.add_plain]
      simp only [World.setCell, putRowW]
      congr 1
      apply Array.ext (by simp)
      intro k h1 h2
      have hbe := (Array.getElem?_eq_some_iff.1 hb).2
      simp only [Array.getElem_modify]
      by_cases e : b = k
      · subst e; simp [hbe]
      · rw [if_neg e, Array.getElem_setIfInBounds_ne (by simpa using h2) e]
    have hb' : (putRowW w b (.cells (cc.setIfInBounds (o + i) v) el fr)).heap[b]? = some (.cells (cc.setIfInBounds (o + i) v) el fr) := by
      simp [putRowW, hlt]
    rw [storeCells]
    simp only [Sem.run_bind, run_store P w _ v .plain (hone v (by simp)), hcell, hfz, Bool.false_eq_true, if_false, Result.andThen_ok]
    rw [hset, ih (i + 1) _ _ hb' (by simp; omega) (fun u hu => hone u (by simp [hu])) (fun k h1 h2 => hfr k (by omega) (by omega)), putRowW_twice]
    simp only [over]
    rfl

theorem run_storeCells_put {P : Program} {w : World} {b : Nat} {cc : Array Value} {el : TypeId} {fr : Nat × Nat} {o : Nat} {vs : List Value}
    (hb : w.heap[b]? = some (.cells cc el fr)) (hsz : o + vs.length ≤ cc.size) (hone : ∀ v ∈ vs, v.oneCell' = true) (hfr : ∀ k, o ≤ k → k < o + vs.length → ¬ (fr.1 ≤ k ∧ k < fr.2)) :
    (storeCells ⟨b, o, none⟩ vs).run P w = .ok () (putRowW w b (.cells (over cc o vs) el fr)) :=
  run_storeCells_over o vs 0 cc w hb (by omega) hone hfr

theorem putRowW_same {w : World} {b : Nat} {o : Obj} (h : b < w.heap.size) : (putRowW w b o).heap[b]? = some o := by
  simp [putRowW, h]
theorem putRowW_other {w : World} {b k : Nat} {o : Obj} (h : k ≠ b) : (putRowW w b o).heap[k]? = w.heap[k]? := by
  simp only [putRowW]; exact Array.getElem?_setIfInBounds_ne (Ne.symm h)
@[simp] theorem putRowW_size {w : World} {b : Nat} {o : Obj} : (putRowW w b o).heap.size = w.heap.size := by simp [putRowW]

/-- AN OBJECT EXCHANGED IN PLACE, a row of cells: the block turns within the object's own room. -/
theorem Sim.putCells {P : Program} {ρ : Rho} {h : AHeap} {B : Nat} {w : World} (hs : Sim P ρ h B w) {i : Nat} {c c' : List AV} {p : Place} {cc cc' : Array Value} {el : TypeId} {fr : Nat × Nat}
    (hg : h.get i = some (.cells c true)) (hp : ρ i = some p) (hb : w.heap[p.blk]? = some (.cells cc el fr)) (hsz : cc'.size = cc.size)
    (hout : ∀ k, ¬ (p.base ≤ k ∧ k < p.base + p.room) → cc'[k]? = cc[k]?) (hlen : c'.length ≤ p.room) (hin : ∀ (k : Nat) a, c'[k]? = some a → ∃ v, cc'[p.base + k]? = some v ∧ VR ρ a v) :
    Stp P B ρ h w ρ (h.set i (.cells c' true)) (putRowW w p.blk (.cells cc' el fr)) := by
  have hob := hs.obj i _ p hg hp
  obtain ⟨cc0, el0, fr0, h1, h2, h3, h4, h5⟩ := hob
  rw [hb] at h1; cases h1
  have hlt : p.blk < w.heap.size := (Array.getElem?_eq_some_iff.1 hb).1
  refine ⟨Ext.refl _, ⟨by simpa using hs.low, hs.dom, ?_, ?_, hs.tidy.set hg⟩, rfl, rfl, rfl, by simp, ?_, ?_, Nat.le_refl _, fun _ _ h => .inl h, fun k L h => ⟨L, by rw [putRowW_other (fun e => by rw [e, hb] at h; cases h)]; exact h⟩⟩
  · intro j o q hj hq
    by_cases e : j = i
    · subst e
      rw [AHeap.get_set_same] at hj; cases hj
      rw [hp] at hq; cases hq
      exact ⟨cc', el, fr, putRowW_same hlt, by rw [hsz]; exact h2, hlen, hin, h5⟩
    · rw [AHeap.get_set_ne _ _ e] at hj
      have hap := hs.sep i j _ o p q (Ne.symm e) hg hj hp hq rfl
      have hoj := hs.obj j o q hj hq
      by_cases eb : q.blk = p.blk
      · rcases hap with hap | hap
        · exact absurd eb.symm hap
        · cases o with
          | cells c1 r1 =>
            obtain ⟨cc1, el1, fr1, k1, k2, k3, k4, k5⟩ := hoj
            rw [eb, hb] at k1; cases k1
            refine ⟨cc', el, fr, by rw [eb]; exact putRowW_same hlt, by rw [hsz]; exact k2, k3, fun k a hk => ?_, k5⟩
            obtain ⟨v, hv, hr⟩ := k4 k a hk
            have hkl : k < c1.length := (List.getElem?_eq_some_iff.1 hk).1
            exact ⟨v, by rw [hout _ (by omega)]; exact hv, hr⟩
          | map es =>
            obtain ⟨_, _, _, ms, ck, k1, _⟩ := hoj
            rw [eb, hb] at k1; cases k1
          | loop fn tm ps a b st pend =>
            obtain ⟨_, _, _, L, k1, _⟩ := hoj
            rw [eb, hb] at k1; cases k1
      · exact hoj.same (putRowW_other eb)
  · intro j k oj ok pj pk hne hj hk h1 h2 h3
    have hj' : ∃ oj', h.get j = some oj' ∧ oj'.rw = oj.rw := by
      by_cases e : j = i
      · subst e; rw [AHeap.get_set_same] at hj; cases hj; exact ⟨_, hg, rfl⟩
      · rw [AHeap.get_set_ne _ _ e] at hj; exact ⟨_, hj, rfl⟩
    have hk' : ∃ ok', h.get k = some ok' := by
      by_cases e : k = i
      · subst e; exact ⟨_, hg⟩
      · rw [AHeap.get_set_ne _ _ e] at hk; exact ⟨_, hk⟩
    obtain ⟨oj', e1, e2⟩ := hj'
    obtain ⟨ok', e3⟩ := hk'
    exact hs.sep j k oj' ok' pj pk hne e1 e3 h1 h2 (by rw [e2]; exact h3)
  · intro b _ ho
    exact putRowW_other fun e => ho i _ p hg hp rfl e.symm
  · intro j o q hj hq hw
    by_cases e : j = i
    · subst e; rw [hp] at hq; cases hq; exact .inr ⟨j, _, p, hg, hp, rfl, rfl⟩
    · rw [AHeap.get_set_ne _ _ e] at hj; exact .inr ⟨j, o, q, hj, hq, hw, rfl⟩

/-- AN OBJECT OF ANOTHER KIND EXCHANGED IN PLACE (a map, a loop's record). -/
theorem Sim.putObj {P : Program} {ρ : Rho} {h : AHeap} {B : Nat} {w : World} (hs : Sim P ρ h B w) {i : Nat} {o o' : AObj} {p : Place} {b : Obj}
    (hg : h.get i = some o) (hp : ρ i = some p) (hw : o.rw = true) (hroom : p.room = 1) (hbase : p.base = 0) (_hw' : o'.rw = true)
    (hkind : ∀ q, (∃ c r, h.get q = some (.cells c r)) → ∀ pq, ρ q = some pq → pq.blk ≠ p.blk)
    (hloop : (∃ L, w.heap[p.blk]? = some (.loop L)) → ∃ L, b = .loop L)
    (ho : ObjR P ρ B (putRowW w p.blk b) o' p) : Stp P B ρ h w ρ (h.set i o') (putRowW w p.blk b) := by
  have hlt : p.blk < w.heap.size := (hs.obj i o p hg hp).lt
  refine ⟨Ext.refl _, ⟨by simpa using hs.low, hs.dom, ?_, ?_, hs.tidy.set hg⟩, rfl, rfl, rfl, by simp, ?_, ?_, Nat.le_refl _, fun _ _ h => .inl h, ?_⟩
  · intro j oj q hj hq
    by_cases e : j = i
    · subst e
      rw [AHeap.get_set_same] at hj; cases hj
      rw [hp] at hq; cases hq
      exact ho
    · rw [AHeap.get_set_ne _ _ e] at hj
      have hap := hs.sep i j _ oj p q (Ne.symm e) hg hj hp hq hw
      have hoj := hs.obj j oj q hj hq
      have hne : q.blk ≠ p.blk := by
        cases oj with
        | cells c r => exact hkind j ⟨c, r, hj⟩ q hq
        | map es =>
          rcases hap with h | h
          · exact Ne.symm h
          · have h1 := hoj.1; have h2 := hoj.2.1; omega
        | loop fn tm ps a b st pend =>
          rcases hap with h | h
          · exact Ne.symm h
          · have h1 := hoj.1; have h2 := hoj.2.1; omega
      exact hoj.same (putRowW_other hne)
  · intro j k oj ok pj pk hne hj hk h1 h2 h3
    have hj' : ∃ oj', h.get j = some oj' ∧ oj'.rw = true := by
      by_cases e : j = i
      · subst e; exact ⟨_, hg, hw⟩
      · rw [AHeap.get_set_ne _ _ e] at hj; exact ⟨_, hj, h3⟩
    have hk' : ∃ ok', h.get k = some ok' := by
      by_cases e : k = i
      · subst e; exact ⟨_, hg⟩
      · rw [AHeap.get_set_ne _ _ e] at hk; exact ⟨_, hk⟩
    obtain ⟨oj', e1, e2⟩ := hj'
    obtain ⟨ok', e3⟩ := hk'
    exact hs.sep j k oj' ok' pj pk hne e1 e3 h1 h2 e2
  · intro b _ hoff
    exact putRowW_other fun e => hoff i _ p hg hp hw e.symm
  · intro j oj q hj hq hwj
    by_cases e : j = i
    · subst e; rw [hp] at hq; cases hq; exact .inr ⟨j, _, p, hg, hp, hw, rfl⟩
    · rw [AHeap.get_set_ne _ _ e] at hj; exact .inr ⟨j, oj, q, hj, hq, hwj, rfl⟩
  · intro k L hk
    by_cases e : k = p.blk
    · subst e
      obtain ⟨L', rfl⟩ := hloop ⟨L, hk⟩
      exact ⟨L', putRowW_same hlt⟩
    · exact ⟨L, by rw [putRowW_other e]; exact hk⟩

/-- AN APPEND IN PLACE: the old object is gone; the new one lies behind its cell o, in the same block. -/
theorem Sim.extend {P : Program} {ρ : Rho} {h : AHeap} {B : Nat} {w : World} (hs : Sim P ρ h B w) {i o : Nat} {c c' : List AV} {p : Place} {cc cc' : Array Value} {el : TypeId} {fr : Nat × Nat}
    (hg : h.get i = some (.cells c true)) (hp : ρ i = some p) (hb : w.heap[p.blk]? = some (.cells cc el fr)) (hsz : cc'.size = cc.size) (ho : o ≤ p.room)
    (hout : ∀ k, ¬ (p.base ≤ k ∧ k < p.base + p.room) → cc'[k]? = cc[k]?) (hlen : c'.length ≤ p.room - o)
    (hin : ∀ (k : Nat) a, c'[k]? = some a → ∃ v, cc'[p.base + o + k]? = some v ∧ VR ρ a v) :
    Stp P B ρ h w (upd ρ h.next ⟨p.blk, p.base + o, p.room - o⟩) ((h.del i).push (.cells c' true)) (putRowW w p.blk (.cells cc' el fr)) := by
  have hnone : ρ h.next = none := by
    cases e : ρ h.next with
    | none => rfl
    | some q => exact absurd (hs.dom _ _ e) (Nat.lt_irrefl _)
  have hx : Ext ρ (upd ρ h.next ⟨p.blk, p.base + o, p.room - o⟩) := Ext.upd _ hnone
  have hob := hs.obj i _ p hg hp
  obtain ⟨cc0, el0, fr0, h1, h2, h3, h4, h5⟩ := hob
  rw [hb] at h1; cases h1
  have hlt : p.blk < w.heap.size := (Array.getElem?_eq_some_iff.1 hb).1
  have hin_ : i < h.next := hs.dom _ _ hp
  have hold : ∀ j oj, ((h.del i).push (.cells c' true)).get j = some oj → j ≠ h.next → j ≠ i ∧ h.get j = some oj := by
    intro j oj hj hne
    rw [AHeap.get_push_ne _ _ (by simpa using hne)] at hj
    by_cases e : j = i
    · subst e; rw [AHeap.get_del_same] at hj; cases hj
    · rw [AHeap.get_del_ne _ e] at hj; exact ⟨e, hj⟩
  have hnew : ∀ oj, ((h.del i).push (.cells c' true)).get h.next = some oj → oj = .cells c' true := by
    intro oj hj
    have : ((h.del i).push (.cells c' true)).get (h.del i).next = some (.cells c' true) := AHeap.get_push_same _ _
    rw [AHeap.next_del] at this
    rw [this] at hj; cases hj; rfl
  refine ⟨hx, ⟨by simpa using hs.low, ?_, ?_, ?_, (hs.tidy.del i).push _⟩, rfl, rfl, rfl, by simp, ?_, ?_, by simp, ?_, fun k L h => ⟨L, by rw [putRowW_other (fun e => by rw [e, hb] at h; cases h)]; exact h⟩⟩
  · intro j q hj
    by_cases e : j = h.next
    · subst e; simp
    · rw [upd_ne _ _ e] at hj; have := hs.dom _ _ hj; simp; omega
  · intro j oj q hj hq
    by_cases e : j = h.next
    · subst e
      rw [hnew _ hj]
      rw [upd_self] at hq; cases hq
      refine ⟨cc', el, fr, putRowW_same hlt, by simp only [hsz]; omega, hlen, fun k a hk => let ⟨v, hv, hr⟩ := hin k a hk; ⟨v, hv, hr.mono hx⟩, fun _ => ⟨(h5 rfl).1, fun k k1 k2 => (h5 rfl).2 k (by simp at k1; omega) (by simp at k2; omega)⟩⟩
    · obtain ⟨e1, hj⟩ := hold j oj hj e
      rw [upd_ne _ _ e] at hq
      have hap := hs.sep i j _ oj p q (Ne.symm e1) hg hj hp hq rfl
      have hoj := hs.obj j oj q hj hq
      refine ObjR.mono hx ?_
      by_cases eb : q.blk = p.blk
      · rcases hap with hap | hap
        · exact absurd eb.symm hap
        · cases oj with
          | cells c1 r1 =>
            obtain ⟨cc1, el1, fr1, k1, k2, k3, k4, k5⟩ := hoj
            rw [eb, hb] at k1; cases k1
            refine ⟨cc', el, fr, by rw [eb]; exact putRowW_same hlt, by rw [hsz]; exact k2, k3, fun k a hk => ?_, k5⟩
            obtain ⟨v, hv, hr⟩ := k4 k a hk
            have hkl : k < c1.length := (List.getElem?_eq_some_iff.1 hk).1
            exact ⟨v, by rw [hout _ (by omega)]; exact hv, hr⟩
          | map es => obtain ⟨_, _, _, ms, ck, k1, _⟩ := hoj; rw [eb, hb] at k1; cases k1
          | loop fn tm ps a b st pend => obtain ⟨_, _, _, L, k1, _⟩ := hoj; rw [eb, hb] at k1; cases k1
      · exact hoj.same (putRowW_other eb)
  · intro j k oj ok pj pk hne hj hk h1 h2 hw
    by_cases ej : j = h.next
    · have ek : k ≠ h.next := fun e => hne (ej.trans e.symm)
      obtain ⟨e2, hk⟩ := hold k ok hk ek
      rw [upd_ne _ _ ek] at h2
      subst ej; rw [upd_self] at h1; cases h1
      have := hs.sep i k _ ok p pk (Ne.symm e2) hg hk hp h2 rfl
      rcases this with h | h | h
      · exact .inl h
      · exact .inr (.inl (by show p.base + o + (p.room - o) ≤ pk.base; omega))
      · exact .inr (.inr (by show pk.base + pk.room ≤ p.base + o; omega))
    · obtain ⟨e1, hj⟩ := hold j oj hj ej
      rw [upd_ne _ _ ej] at h1
      by_cases ek : k = h.next
      · subst ek; rw [upd_self] at h2; cases h2
        have := hs.sep j i oj _ pj p e1 hj hg h1 hp hw
        rcases this with h | h | h
        · exact .inl h
        · exact .inr (.inl (by show pj.base + pj.room ≤ p.base + o; omega))
        · exact .inr (.inr (by show p.base + o + (p.room - o) ≤ pj.base; omega))
      · obtain ⟨e2, hk⟩ := hold k ok hk ek
        rw [upd_ne _ _ ek] at h2
        exact hs.sep j k oj ok pj pk hne hj hk h1 h2 hw
  · intro b _ hoff
    exact putRowW_other fun e => hoff i _ p hg hp rfl e.symm
  · intro j oj q hj hq hw
    by_cases ej : j = h.next
    · subst ej; rw [upd_self] at hq; cases hq; exact .inr ⟨i, _, p, hg, hp, rfl, rfl⟩
    · obtain ⟨_, hj⟩ := hold j oj hj ej
      rw [upd_ne _ _ ej] at hq
      exact .inr ⟨j, oj, q, hj, hq, hw, rfl⟩
  · intro j q hj
    by_cases e : j = h.next
    · subst e; exact .inr (Nat.le_refl _)
    · rw [upd_ne _ _ e] at hj; exact .inl hj

end Go.AM
