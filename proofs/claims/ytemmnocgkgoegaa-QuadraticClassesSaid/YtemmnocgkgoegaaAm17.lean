/- A region whose order is open, in the abstract: a plan of it, a run of it in one order; then every order comes to the same. No condition. -/
import Derived.Test.YtemmnocgkgoegaaAm16
import Derived.OrdersIn
namespace Go.AM
open Go

def isEo (o : AOper) : Bool := match o.op.cls with | .e => true | _ => false
theorem isEo_true {o : AOper} (h : isEo o = true) : o.op.cls = .e := by unfold isEo at h; split at h <;> first | assumption | cases h
theorem isEo_false {o : AOper} (h : isEo o = false) : o.op.cls ≠ .e := by intro e; simp [isEo, e] at h

noncomputable def outOf (o : AOper) (s : St) : AV := match o.dst with | some d => nth s.tm d | none => aundef

/-- one operation, or none where its guard says so -/
def StepR (o : AOper) (call : CallT) (s s' : St) : Prop := if wanted s.tm o.guard = true then step1 o call s = some s' else s' = ⟨putD s.tm o.dst aundef, s.h⟩

theorem putD_length (tm : List AV) (d : Option Nat) (v : AV) : (putD tm d v).length = tm.length := by
  cases d with
  | none => rfl
  | some d => simp [putD, put_eq]
theorem putD_nth_ne {tm : List AV} {d : Option Nat} {v : AV} {t : Nat} (h : d ≠ some t) : nth (putD tm d v) t = nth tm t := by
  cases d with
  | none => rfl
  | some d =>
    have hne : d ≠ t := fun e => h (by rw [e])
    simp only [putD, put_eq, nth_eq, List.getD_eq_getElem?_getD, List.getElem?_set_ne hne]
theorem putD_nth_self {tm tm' : List AV} {t : Nat} {v : AV} (hl : tm.length = tm'.length) : nth (putD tm (some t) v) t = nth (putD tm' (some t) v) t := by
  simp only [putD, put_eq, nth_eq, List.getD_eq_getElem?_getD]
  by_cases h : t < tm.length
  · rw [List.getElem?_set_self h, List.getElem?_set_self (by omega)]
  · rw [List.getElem?_eq_none (by simp; omega), List.getElem?_eq_none (by simp; omega)]
theorem putD_outOf {tm : List AV} {o : AOper} {v : AV} {h : AHeap} : putD tm o.dst (outOf o ⟨putD tm o.dst v, h⟩) = putD tm o.dst v := by
  cases hd : o.dst with
  | none => rfl
  | some d =>
    simp only [outOf, hd, putD, put_eq, nth_eq, List.getD_eq_getElem?_getD]
    by_cases hlt : d < tm.length
    · rw [List.getElem?_set_self hlt]; rfl
    · rw [List.set_eq_of_length_le (by omega), List.set_eq_of_length_le (by omega)]

/-- what a step has done -/
theorem StepR.spec {o : AOper} {call : CallT} {s s' : St} (h : StepR o call s s') :
    (wanted s.tm o.guard = true ∧ o.op.cls = .q ∧ ∃ v, evalQ o.op s.tm s.h = some v ∧ s' = ⟨putD s.tm o.dst v, s.h⟩) ∨
    (wanted s.tm o.guard = true ∧ o.op.cls = .a ∧ ∃ b v, evalA o.op s.tm s.h = some (b, v) ∧ s' = ⟨putD s.tm o.dst v, s.h.push b⟩) ∨
    (wanted s.tm o.guard = true ∧ o.op.cls = .e ∧ ∃ v h', evalE o.op call s.tm s.h = some (v, h') ∧ s' = ⟨putD s.tm o.dst v, h'⟩) ∨
    (wanted s.tm o.guard = false ∧ s' = ⟨putD s.tm o.dst aundef, s.h⟩) := by
  unfold StepR at h
  by_cases hw : wanted s.tm o.guard = true
  · rw [if_pos hw] at h
    cases hc : o.op.cls with
    | q =>
      rw [step1_q hc] at h
      split at h <;> cases h
      rename_i v hv
      exact .inl ⟨hw, rfl, v, hv, rfl⟩
    | a =>
      rw [step1_a hc] at h
      split at h <;> cases h
      rename_i b v hv
      exact .inr (.inl ⟨hw, rfl, b, v, hv, rfl⟩)
    | e =>
      rw [step1_e hc] at h
      split at h <;> cases h
      rename_i v h' hv
      exact .inr (.inr (.inl ⟨hw, rfl, v, h', hv, rfl⟩))
  · rw [if_neg hw] at h
    exact .inr (.inr (.inr ⟨by simpa using hw, h⟩))

theorem StepR.tm {o : AOper} {call : CallT} {s s' : St} (h : StepR o call s s') : ∃ v, s'.tm = putD s.tm o.dst v := by
  rcases h.spec with ⟨_, _, v, _, e⟩ | ⟨_, _, _, v, _, e⟩ | ⟨_, _, v, _, _, e⟩ | ⟨_, e⟩ <;> exact ⟨_, by rw [e]⟩

/-- A plan of a region, and its run in the plan's order. -/
structure Draw (P : Program) (ops : Array Oper) (call : CallT) where
  N : Nat
  idx : Nat → Nat
  ao : Nat → AOper
  cnt : Nat → Nat
  nE : Nat → Nat → Nat
  bit : Nat → Nat → Prop
  S : Nat → St
  get : ∀ k, k < N → ∃ o, ops[idx k]? = some o ∧ trOper P ops o = some (ao k)
  inj : ∀ k k', k < N → k' < N → idx k = idx k' → k = k'
  surj : ∀ i, i < ops.size → ∃ k, k < N ∧ idx k = i
  closed : ∀ i o, ops[i]? = some o → ∀ j, bit j i → ∃ e ∈ o.after, Region.binds .any e = true ∧ (j = e.on ∨ bit j e.on)
  seq : ∀ k, k < N → ∀ o, ops[idx k]? = some o → ∀ e ∈ o.after, Region.binds .any e = true → ∃ k', k' < k ∧ idx k' = e.on
  pair : ∀ k k', k < k' → k' < N → isEo (ao k) = true ∨ confl (ao k) (ao k') = true → bit (idx k) (idx k')
  stay : ∀ k m, k < m → m < N → isEo (ao m) = true → isEo (ao k) = false → (ao k).op.reads = true → (∀ m', k < m' → m' ≤ m → isEo (ao m') = true → ¬ bit (idx k) (idx m')) → nE (k + 1) m < cnt k
  step : ∀ k, k < N → StepR (ao k) call (S k) (S (k + 1))
  chk : ∀ k m, k < m → m < N → isEo (ao k) = false → wanted (S k).tm (ao k).guard = true → isEo (ao m) = true → wanted (S m).tm (ao m).guard = true → nE (k + 1) m < cnt k →
    recheck (ao k) (S k).tm (S k).h (outOf (ao k) (S (k + 1))) (S (m + 1)).h = true

section
variable {P : Program} {ops : Array Oper} {call : CallT} (d : Draw P ops call)

theorem Draw.len (k : Nat) (hk : k ≤ d.N) : (d.S k).tm.length = (d.S 0).tm.length := by
  induction k with
  | zero => rfl
  | succ k ih =>
    obtain ⟨v, e⟩ := (d.step k hk).tm
    rw [e, putD_length, ih (by omega)]

/-- no one has written between -/
theorem Draw.same (t i k : Nat) (hik : i ≤ k) (hk : k ≤ d.N) (h : ∀ j, i ≤ j → j < k → (d.ao j).dst ≠ some t) : nth (d.S k).tm t = nth (d.S i).tm t := by
  induction k with
  | zero => have : i = 0 := by omega
            rw [this]
  | succ k ih =>
    by_cases e : i = k + 1
    · rw [e]
    · obtain ⟨v, ev⟩ := (d.step k (by omega)).tm
      rw [ev, putD_nth_ne (h k (by omega) (by omega))]
      exact ih (by omega) (by omega) fun j h1 h2 => h j h1 (by omega)

/-- is the operation at place k done? -/
abbrev Draw.done (D : Nat → Prop) (k : Nat) : Prop := D (d.idx k)

/-- up to place j of the plan's order all that turns the heap is done; nothing behind it is -/
structure Draw.At (B : Nat) (ρ0 : Rho) (h0 : AHeap) (w0 : World) (D : Nat → Prop) (j : Nat) (ρ : Rho) (w : World) : Prop where
  le : j ≤ d.N
  ahead : ∀ k, k < j → isEo (d.ao k) = true → D (d.idx k)
  behind : ∀ k, j ≤ k → k < d.N → ¬ D (d.idx k)
  stp : Stp P B ρ0 h0 w0 ρ (d.S j).h w
  ghost : ∀ k, k < j → ¬ D (d.idx k) → (d.ao k).op.cls = .a → wanted (d.S k).tm (d.ao k).guard = true → ρ (d.S k).h.next = none
  mono : ∀ i k, i ≤ k → k ≤ j → (d.S i).h.next ≤ (d.S k).h.next
  pendQ : ∀ k, k < j → ¬ D (d.idx k) → (d.ao k).op.cls = .q → wanted (d.S k).tm (d.ao k).guard = true → ∃ v, evalQ (d.ao k).op (d.S k).tm (d.S j).h = some v ∧ putD (d.S k).tm (d.ao k).dst v = (d.S (k + 1)).tm
  pendA : ∀ k, k < j → ¬ D (d.idx k) → (d.ao k).op.cls = .a → wanted (d.S k).tm (d.ao k).guard = true → ∃ b v, evalA (d.ao k).op (d.S k).tm (d.S k).h = some (b, v) ∧ putD (d.S k).tm (d.ao k).dst v = (d.S (k + 1)).tm ∧ (d.S j).h.get (d.S k).h.next = some b

theorem noDom {P : Program} {B : Nat} {ρ : Rho} {h : AHeap} {w : World} (hs : Sim P ρ h B w) : ρ h.next = none := by
  cases e : ρ h.next with
  | none => rfl
  | some q => exact absurd (hs.dom _ _ e) (Nat.lt_irrefl _)

/-- one place on, where nothing turns the heap -/
theorem Draw.At.adv {B : Nat} {ρ0 : Rho} {h0 : AHeap} {w0 : World} {D : Nat → Prop} {j : Nat} {ρ : Rho} {w : World} (A : d.At B ρ0 h0 w0 D j ρ w) (hj : j < d.N) (hE : isEo (d.ao j) = false) : d.At B ρ0 h0 w0 D (j + 1) ρ w := by
  have hne := isEo_false hE
  have ahead' : ∀ k, k < j + 1 → isEo (d.ao k) = true → D (d.idx k) := fun k hk he => by
    by_cases e : k = j
    · subst e; rw [hE] at he; cases he
    · exact A.ahead k (by omega) he
  have behind' : ∀ k, j + 1 ≤ k → k < d.N → ¬ D (d.idx k) := fun k h1 h2 => A.behind k (by omega) h2
  rcases (d.step j hj).spec with ⟨hw, hcl, v, hv, e⟩ | ⟨hw, hcl, b, v, hv, e⟩ | ⟨hw, hcl, v, h', hv, e⟩ | ⟨hw, e⟩
  · have eh : (d.S (j + 1)).h = (d.S j).h := by rw [e]
    refine ⟨hj, ahead', behind', by rw [eh]; exact A.stp, ?_, ?_, ?_, ?_⟩
    · intro k hk hD hc hwk
      by_cases ek : k = j
      · subst ek; rw [hcl] at hc; cases hc
      · exact A.ghost k (by omega) hD hc hwk
    · intro i k h1 h2
      by_cases ek : k = j + 1
      · subst ek
        rw [eh]
        by_cases ei : i = j + 1
        · subst ei; rw [eh]; exact Nat.le_refl _
        · exact A.mono i j (by omega) (Nat.le_refl _)
      · exact A.mono i k h1 (by omega)
    · intro k hk hD hc hwk
      rw [eh]
      by_cases ek : k = j
      · subst ek; exact ⟨v, hv, by rw [e]⟩
      · exact A.pendQ k (by omega) hD hc hwk
    · intro k hk hD hc hwk
      rw [eh]
      by_cases ek : k = j
      · subst ek; rw [hcl] at hc; cases hc
      · exact A.pendA k (by omega) hD hc hwk
  · have eh : (d.S (j + 1)).h = (d.S j).h.push b := by rw [e]
    have hgr := A.stp.sim.tidy.grown b
    refine ⟨hj, ahead', behind', by rw [eh]; exact A.stp.ghost b, ?_, ?_, ?_, ?_⟩
    · intro k hk hD hc hwk
      by_cases ek : k = j
      · subst ek; exact noDom A.stp.sim
      · exact A.ghost k (by omega) hD hc hwk
    · intro i k h1 h2
      by_cases ek : k = j + 1
      · subst ek
        by_cases ei : i = j + 1
        · subst ei; exact Nat.le_refl _
        · rw [eh]; exact Nat.le_trans (A.mono i j (by omega) (Nat.le_refl _)) (by simp)
      · exact A.mono i k h1 (by omega)
    · intro k hk hD hc hwk
      rw [eh]
      by_cases ek : k = j
      · subst ek; rw [hcl] at hc; cases hc
      · obtain ⟨v', h1, h2⟩ := A.pendQ k (by omega) hD hc hwk
        exact ⟨v', evalQ_grown hgr h1, h2⟩
    · intro k hk hD hc hwk
      rw [eh]
      by_cases ek : k = j
      · subst ek; exact ⟨b, v, hv, by rw [e], AHeap.get_push_same _ _⟩
      · obtain ⟨b', v', h1, h2, h3⟩ := A.pendA k (by omega) hD hc hwk
        exact ⟨b', v', h1, h2, hgr _ _ h3⟩
  · exact absurd hcl hne
  · have eh : (d.S (j + 1)).h = (d.S j).h := by rw [e]
    refine ⟨hj, ahead', behind', by rw [eh]; exact A.stp, ?_, ?_, ?_, ?_⟩
    · intro k hk hD hc hwk
      by_cases ek : k = j
      · subst ek; rw [hw] at hwk; cases hwk
      · exact A.ghost k (by omega) hD hc hwk
    · intro i k h1 h2
      by_cases ek : k = j + 1
      · subst ek
        rw [eh]
        by_cases ei : i = j + 1
        · subst ei; rw [eh]; exact Nat.le_refl _
        · exact A.mono i j (by omega) (Nat.le_refl _)
      · exact A.mono i k h1 (by omega)
    · intro k hk hD hc hwk
      rw [eh]
      by_cases ek : k = j
      · subst ek; rw [hw] at hwk; cases hwk
      · exact A.pendQ k (by omega) hD hc hwk
    · intro k hk hD hc hwk
      rw [eh]
      by_cases ek : k = j
      · subst ek; rw [hw] at hwk; cases hwk
      · exact A.pendA k (by omega) hD hc hwk

/-- and on, to the next that turns it or to the end -/
theorem Draw.At.run {B : Nat} {ρ0 : Rho} {h0 : AHeap} {w0 : World} {D : Nat → Prop} {ρ : Rho} {w : World} : ∀ (n j : Nat), j + n = d.N → d.At B ρ0 h0 w0 D j ρ w → ∃ m, d.At B ρ0 h0 w0 D m ρ w ∧ (m = d.N ∨ (m < d.N ∧ isEo (d.ao m) = true))
  | 0, j, hj, A => ⟨j, A, .inl (by omega)⟩
  | n + 1, j, hj, A => by
    cases hE : isEo (d.ao j) with
    | true => exact ⟨j, A, .inr ⟨by omega, hE⟩⟩
    | false => exact Draw.At.run n (j + 1) (by omega) (A.adv d (by omega) hE)

/-- what the temporaries hold: what the last that has been done has written -/
structure Draw.Tm (D : Nat → Prop) (tmA : List AV) : Prop where
  len : tmA.length = (d.S 0).tm.length
  val : ∀ t, (∃ k, k < d.N ∧ D (d.idx k) ∧ (d.ao k).dst = some t ∧ nth tmA t = nth (d.S (k + 1)).tm t ∧ ∀ k', k < k' → k' < d.N → D (d.idx k') → (d.ao k').dst ≠ some t) ∨
    ((∀ k, k < d.N → D (d.idx k) → (d.ao k).dst ≠ some t) ∧ nth tmA t = nth (d.S 0).tm t)

/-- what is done is closed under 'must come before' -/
def Draw.Cl (D : Nat → Prop) : Prop := ∀ i, D i → ∀ j, d.bit j i → D j

theorem looks_true {dd : Option Nat} {ts : List Nat} {t : Nat} (hd : dd = some t) (ht : t ∈ ts) : looks dd ts = true := by
  subst hd
  simp only [looks, List.any_eq_true]
  exact ⟨t, ht, Nat.beq_refl t⟩
theorem confl_w {x y : AOper} {t : Nat} (hd : x.dst = some t) (ht : t ∈ y.temps) : confl x y = true := by
  simp [confl, looks_true hd ht]
theorem confl_r {x y : AOper} {t : Nat} (hd : y.dst = some t) (ht : t ∈ x.temps) : confl x y = true := by
  simp [confl, looks_true hd ht]
theorem confl_d {x y : AOper} {t : Nat} (hd : x.dst = some t) (hd' : y.dst = some t) : confl x y = true := by
  simp [confl, optEq, hd, hd', Nat.beq_refl]

/-- what an operation that may come up looks at is what the plan's run had there -/
theorem Draw.Tm.reads {D : Nat → Prop} {tmA : List AV} (T : d.Tm D tmA) (hcl : d.Cl D) {k : Nat} (hk : k < d.N) (hnD : ¬ D (d.idx k)) (hr : ∀ j, d.bit j (d.idx k) → D j) : ∀ t ∈ (d.ao k).temps, nth (d.S k).tm t = nth tmA t := by
  intro t ht
  have before : ∀ k', k' < k → (d.ao k').dst = some t → D (d.idx k') := fun k' h1 h2 => hr _ (d.pair k' k h1 hk (.inr (confl_w h2 ht)))
  have after : ∀ k', k < k' → k' < d.N → (d.ao k').dst = some t → ¬ D (d.idx k') := fun k' h1 h2 h3 h4 => hnD (hcl _ h4 _ (d.pair k k' h1 h2 (.inr (confl_r h3 ht))))
  rcases T.val t with ⟨k', h1, h2, h3, h4, h5⟩ | ⟨h1, h2⟩
  · have hlt : k' < k := by
      rcases Nat.lt_trichotomy k' k with h | h | h
      · exact h
      · subst h; exact absurd h2 hnD
      · exact absurd h2 (after k' h h1 h3)
    rw [h4]
    refine d.same t (k' + 1) k (by omega) (by omega) fun j g1 g2 g3 => ?_
    exact h5 j (by omega) (by omega) (before j g2 g3) g3
  · rw [h2]
    refine d.same t 0 k (Nat.zero_le _) (by omega) fun j g1 g2 g3 => ?_
    exact h1 j (by omega) (before j g2 g3) g3

/-- one more is done -/
theorem Draw.Tm.put {D : Nat → Prop} {tmA : List AV} (T : d.Tm D tmA) (hcl : d.Cl D) {k : Nat} (hk : k < d.N) (hnD : ¬ D (d.idx k)) {v : AV} (hv : (d.S (k + 1)).tm = putD (d.S k).tm (d.ao k).dst v) :
    d.Tm (fun i => i = d.idx k ∨ D i) (putD tmA (d.ao k).dst v) := by
  have hinj : ∀ k', k' < d.N → (d.idx k' = d.idx k ∨ D (d.idx k')) → k' ≠ k → D (d.idx k') := fun k' h1 h2 h3 => by
    rcases h2 with h2 | h2
    · exact absurd (d.inj _ _ h1 hk h2) h3
    · exact h2
  refine ⟨by rw [putD_length]; exact T.len, fun t => ?_⟩
  by_cases e : (d.ao k).dst = some t
  · refine .inl ⟨k, hk, .inl rfl, e, ?_, fun k' h1 h2 h3 h4 => ?_⟩
    · rw [hv, e]; exact putD_nth_self (by rw [T.len, d.len k (by omega)])
    · have := hinj k' h2 h3 (by omega)
      exact hnD (hcl _ this _ (d.pair k k' h1 h2 (.inr (confl_d e h4))))
  · rw [putD_nth_ne e]
    rcases T.val t with ⟨k', h1, h2, h3, h4, h5⟩ | ⟨h1, h2⟩
    · refine .inl ⟨k', h1, .inr h2, h3, h4, fun k2 g1 g2 g3 g4 => ?_⟩
      by_cases ek : k2 = k
      · subst ek; exact e g4
      · exact h5 k2 g1 g2 (hinj k2 g2 g3 ek) g4
    · refine .inr ⟨fun k2 g1 g2 g3 => ?_, h2⟩
      by_cases ek : k2 = k
      · subst ek; exact e g3
      · exact h1 k2 g1 (hinj k2 g1 g2 ek) g3

theorem Draw.Tm.all {D : Nat → Prop} {tmA : List AV} (T : d.Tm D tmA) (hall : ∀ k, k < d.N → D (d.idx k)) : tmA = (d.S d.N).tm := by
  have hlen : tmA.length = (d.S d.N).tm.length := by rw [T.len, d.len d.N (Nat.le_refl _)]
  apply List.ext_getElem hlen
  intro t h1 h2
  have key : nth tmA t = nth (d.S d.N).tm t := by
    rcases T.val t with ⟨k, g1, _, _, g4, g5⟩ | ⟨g1, g2⟩
    · rw [g4]
      exact (d.same t (k + 1) d.N (by omega) (Nat.le_refl _) fun j q1 q2 q3 => g5 j (by omega) q2 (hall j q2) q3).symm
    · rw [g2]
      exact (d.same t 0 d.N (Nat.zero_le _) (Nat.le_refl _) fun j q1 q2 q3 => g1 j q2 (hall j q2) q3).symm
  simpa [nth_eq, List.getD_eq_getElem?_getD, h1, h2] using key

end
end Go.AM
