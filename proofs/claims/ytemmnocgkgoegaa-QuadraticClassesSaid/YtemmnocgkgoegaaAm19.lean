/- A region whose order is open: the plan out of the translation, the trace out of the run. No condition. -/
import Derived.Test.YtemmnocgkgoegaaAm18
namespace Go.AM
open Go

abbrev Chks := List ((AHeap → Bool) × Nat)
theorem checks_spec : ∀ {ps : Chks} {h : AHeap}, checks ps h = true → ∀ f c, (f, c) ∈ ps → 0 < c → f h = true
  | [], h, _, f, c, hm, _ => by cases hm
  | (g, 0) :: r, h, hc, f, c, hm, h0 => by
    rcases List.mem_cons.1 hm with e | e
    · cases e; omega
    · exact checks_spec (ps := r) (by simpa [checks] using hc) f c e h0
  | (g, n + 1) :: r, h, hc, f, c, hm, h0 => by
    simp only [checks] at hc
    cases hg : g h with
    | false => rw [hg] at hc; cases hc
    | true =>
      rw [hg] at hc
      rcases List.mem_cons.1 hm with e | e
      · cases e; exact hg
      · exact checks_spec (ps := r) hc f c e h0
theorem lower_spec : ∀ {ps : Chks} {f : AHeap → Bool} {c : Nat}, (f, c + 2) ∈ ps → (f, c + 1) ∈ lower ps
  | [], f, c, hm => by cases hm
  | (g, 0) :: r, f, c, hm => by
    rcases List.mem_cons.1 hm with e | e
    · cases e
    · exact lower_spec (ps := r) e
  | (g, 1) :: r, f, c, hm => by
    rcases List.mem_cons.1 hm with e | e
    · cases e
    · exact lower_spec (ps := r) e
  | (g, n + 2) :: r, f, c, hm => by
    rcases List.mem_cons.1 hm with e | e
    · cases e; exact List.mem_cons_self ..
    · exact List.mem_cons_of_mem _ (lower_spec (ps := r) e)

abbrev eCount (l : List (AOper × Nat)) : Nat := l.countP fun p => isEo p.1

structure Tra (L : List (AOper × Nat)) (call : CallT) (s : St) (ps : Chks) (s' : St) (S : Nat → St) : Prop where
  z : S 0 = s
  l : S L.length = s'
  step : ∀ k p, L[k]? = some p → StepR p.1 call (S k) (S (k + 1))
  old : ∀ m p, L[m]? = some p → isEo p.1 = true → wanted (S m).tm p.1.guard = true → ∀ f c, (f, c) ∈ ps → eCount (L.take m) < c → f (S (m + 1)).h = true
  new : ∀ k p, L[k]? = some p → isEo p.1 = false → wanted (S k).tm p.1.guard = true → ∀ m q, k < m → L[m]? = some q → isEo q.1 = true → wanted (S m).tm q.1.guard = true → eCount ((L.take m).drop (k + 1)) < p.2 →
    recheck p.1 (S k).tm (S k).h (outOf p.1 (S (k + 1))) (S (m + 1)).h = true

theorem Tra.cons {r : List (AOper × Nat)} {call : CallT} {p : AOper × Nat} {s s1 s' : St} {ps ps1 : Chks} {S : Nat → St} (T : Tra r call s1 ps1 s' S) (hstep : StepR p.1 call s s1)
    (h0 : isEo p.1 = true → wanted s.tm p.1.guard = true → ∀ f c, (f, c) ∈ ps → 0 < c → f s1.h = true)
    (hmore : ∀ f c x, (f, c) ∈ ps → (if isEo p.1 = true then 1 else 0) + x < c → ∃ c', (f, c') ∈ ps1 ∧ x < c')
    (hnew : isEo p.1 = false → wanted s.tm p.1.guard = true → ∀ x, x < p.2 → ∃ c', (recheck p.1 s.tm s.h (outOf p.1 s1), c') ∈ ps1 ∧ x < c') : ∃ S', Tra (p :: r) call s ps s' S' := by
  refine ⟨fun n => match n with | 0 => s | n + 1 => S n, rfl, T.l, ?_, ?_, ?_⟩
  · intro k q hk
    cases k with
    | zero => simp at hk; subst hk; show StepR p.1 call s (S 0); rw [T.z]; exact hstep
    | succ k => exact T.step k q (by simpa using hk)
  · intro m q hm hE hw f c hf hc
    cases m with
    | zero =>
      simp at hm; subst hm
      show f (S 0).h = true
      rw [T.z]
      exact h0 hE hw f c hf (by simpa using hc)
    | succ m =>
      have hc' : (if isEo p.1 = true then 1 else 0) + eCount (r.take m) < c := by
        simp only [List.take_succ_cons, eCount, List.countP_cons] at hc
        simp only [eCount]; omega
      obtain ⟨c', h1, h2⟩ := hmore f c _ hf hc'
      exact T.old m q (by simpa using hm) hE hw f c' h1 h2
  · intro k q hk hE hw m q' hkm hm hE' hw' hc
    cases m with
    | zero => omega
    | succ m =>
      cases k with
      | zero =>
        simp at hk; subst hk
        simp only [List.take_succ_cons, List.drop_succ_cons, List.drop_zero] at hc
        obtain ⟨c', h1, h2⟩ := hnew hE hw _ hc
        have := T.old m q' (by simpa using hm) hE' hw' _ c' h1 h2
        show recheck p.1 s.tm s.h (outOf p.1 (S 0)) (S (m + 1)).h = true
        rw [T.z]; exact this
      | succ k =>
        simp only [List.take_succ_cons, List.drop_succ_cons] at hc
        exact T.new k q (by simpa using hk) hE hw m q' (by omega) (by simpa using hm) hE' hw' hc

theorem isEo_iff {o : AOper} : isEo o = true ↔ o.op.cls = .e := ⟨isEo_true, fun h => by simp [isEo, h]⟩

theorem runDraw_trace {call : CallT} : ∀ (L : List (AOper × Nat)) (s : St) (ps : Chks) (s' : St), runDraw L call s ps = some s' → ∃ S, Tra L call s ps s' S
  | [], s, ps, s', h => by
    rw [runDraw_nil] at h; cases h
    exact ⟨fun _ => s, rfl, rfl, fun k p hk => by simp at hk, fun m p hm => by simp at hm, fun k p hk => by simp at hk⟩
  | (o, n) :: r, s, ps, s', h => by
    rw [runDraw_cons] at h
    by_cases hw : wanted s.tm o.guard = true
    · rw [if_pos hw] at h
      cases hst : step1 o call s with
      | none => rw [hst] at h; cases h
      | some s1 =>
        rw [hst] at h
        have hstep : StepR o call s s1 := by unfold StepR; rw [if_pos hw]; exact hst
        have hqa : o.op.cls ≠ .e → (match (generalizing := false) n with
            | 0 => runDraw r call s1 ps
            | n + 1 => runDraw r call s1 ((recheck o s.tm s.h (outOf o s1), n + 1) :: ps)) = some s' → ∃ S, Tra ((o, n) :: r) call s ps s' S := by
          intro hne h
          have hE : isEo o = false := by
            cases hh : isEo o with
            | false => rfl
            | true => exact absurd (isEo_true hh) hne
          cases n with
          | zero =>
            obtain ⟨S, T⟩ := runDraw_trace r s1 ps s' h
            exact T.cons hstep (fun hE' => by rw [hE] at hE'; cases hE') (fun f c x hf hx => ⟨c, hf, by omega⟩) (fun _ _ x hx => by simp at hx)
          | succ n =>
            obtain ⟨S, T⟩ := runDraw_trace r s1 _ s' h
            exact T.cons hstep (fun hE' => by rw [hE] at hE'; cases hE') (fun f c x hf hx => ⟨c, List.mem_cons_of_mem _ hf, by omega⟩) (fun _ _ x hx => ⟨n + 1, List.mem_cons_self .., hx⟩)
        cases hc : o.op.cls with
        | e =>
          simp only [hc] at h
          cases hck : checks ps s1.h with
          | false => rw [hck] at h; cases h
          | true =>
            rw [hck] at h
            obtain ⟨S, T⟩ := runDraw_trace r s1 _ s' h
            have hE : isEo o = true := isEo_iff.2 hc
            refine T.cons hstep (fun _ _ f c hf h0 => checks_spec hck f c hf h0) (fun f c x hf hx => ?_) (fun hE' => by rw [hE] at hE'; cases hE')
            simp only [hE, if_true] at hx
            obtain ⟨c2, rfl⟩ : ∃ c2, c = c2 + 2 := ⟨c - 2, by omega⟩
            exact ⟨c2 + 1, lower_spec hf, by omega⟩
        | q => simp only [hc] at h; exact hqa (by rw [hc]; intro e; cases e) h
        | a => simp only [hc] at h; exact hqa (by rw [hc]; intro e; cases e) h
    · rw [if_neg hw] at h
      have hstep : StepR o call s ⟨putD s.tm o.dst aundef, s.h⟩ := by unfold StepR; rw [if_neg hw]
      obtain ⟨S, T⟩ := runDraw_trace r _ _ s' h
      refine T.cons hstep (fun _ hw' => absurd hw' hw) (fun f c x hf hx => ?_) (fun _ hw' => absurd hw' hw)
      cases hE : isEo o with
      | true =>
        have hc := isEo_true hE
        simp only [hE, if_true] at hx
        simp only [hc]
        obtain ⟨c2, rfl⟩ : ∃ c2, c = c2 + 2 := ⟨c - 2, by omega⟩
        exact ⟨c2 + 1, lower_spec hf, by omega⟩
      | false =>
        have hne := isEo_false hE
        refine ⟨c, ?_, by omega⟩
        cases hc : o.op.cls with
        | e => exact absurd hc hne
        | q => exact hf
        | a => exact hf

/-! ### what the checks say -/
theorem or_eq_testBit {x u : Nat} (h : Nat.beq (x ||| u) u = true) {j : Nat} (hj : x.testBit j = true) : u.testBit j = true := by
  have := Nat.eq_of_beq_eq_true h
  rw [← this, Nat.testBit_or, hj]; rfl

theorem closedOk_spec {ops : Array Oper} {b : Array Nat} (h : closedOk ops b = true) {i : Nat} {o : Oper} (ho : ops[i]? = some o) {j : Nat} (hj : bitB b j i = true) :
    ∃ e ∈ o.after, Region.binds .any e = true ∧ (j = e.on ∨ bitB b j e.on = true) := by
  have hi := (Array.getElem?_eq_some_iff.1 ho).1
  unfold closedOk at h
  rw [List.all_eq_true] at h
  have h1 := h i (by simpa using hi)
  simp only [ho] at h1
  have h2 := or_eq_testBit h1 hj
  rw [← Array.foldl_toList] at h2
  have key : ∀ (l : List Edge) (u : Nat), (l.foldl (fun u e => bif Region.binds .any e then u ||| (2 ^ e.on ||| b.getD e.on 0) else u) u).testBit j = true →
      u.testBit j = true ∨ ∃ e ∈ l, Region.binds .any e = true ∧ (j = e.on ∨ bitB b j e.on = true) := by
    intro l
    induction l with
    | nil => intro u hu; exact .inl hu
    | cons e r ih =>
      intro u hu
      rw [List.foldl_cons] at hu
      rcases ih _ hu with h3 | ⟨e', he', h4⟩
      · cases hb : Region.binds .any e with
        | false => rw [hb] at h3; exact .inl h3
        | true =>
          rw [hb] at h3
          simp only [cond_true, Nat.testBit_or, Bool.or_eq_true, Nat.testBit_two_pow, decide_eq_true_eq] at h3
          rcases h3 with h3 | h3 | h3
          · exact .inl h3
          · exact .inr ⟨e, List.mem_cons_self .., hb, .inl h3.symm⟩
          · exact .inr ⟨e, List.mem_cons_self .., hb, .inr h3⟩
      · exact .inr ⟨e', List.mem_cons_of_mem _ he', h4⟩
  rcases key _ _ h2 with h3 | ⟨e, he, h4⟩
  · simp at h3
  · exact ⟨e, by simpa using he, h4⟩

theorem seqOk_spec {ops : Array Oper} : ∀ {c : List Nat} {s : Nat}, seqOk ops s c = true → (∀ j ∈ c, s.testBit j = false) ∧ c.Nodup ∧
    ∀ (k j : Nat), c[k]? = some j → ∃ o : Oper, ops[j]? = some o ∧ ∀ e ∈ o.after, Region.binds .any e = true → s.testBit e.on = true ∨ ∃ k', k' < k ∧ c[k']? = some e.on
  | [], s, _ => ⟨(fun j hj => by cases hj), List.nodup_nil, (fun k j hk => by simp at hk)⟩
  | i :: r, s, h => by
    simp only [seqOk, Bool.and_eq_true, Bool.not_eq_true'] at h
    obtain ⟨⟨h1, h2⟩, h3⟩ := h
    obtain ⟨g1, g2, g3⟩ := seqOk_spec h3
    have g1' : ∀ j ∈ r, s.testBit j = false ∧ j ≠ i := fun j hj => by
      have := g1 j hj
      rw [Nat.testBit_or, Bool.or_eq_false_iff, Nat.testBit_two_pow] at this
      refine ⟨this.1, fun e => ?_⟩
      have h4 := this.2
      simp [e] at h4
    refine ⟨fun j hj => ?_, ?_, fun k j hk => ?_⟩
    · rcases List.mem_cons.1 hj with rfl | hj
      · exact h1
      · exact (g1' j hj).1
    · rw [List.nodup_cons]
      exact ⟨fun hm => (g1' i hm).2 rfl, g2⟩
    · cases k with
      | zero =>
        simp at hk; subst hk
        unfold readyB at h2
        split at h2
        · rename_i o ho
          refine ⟨o, ho, fun e he hb => .inl ?_⟩
          rw [Array.all_eq_true_iff_forall_mem] at h2
          have := h2 e he
          rw [hb] at this
          simpa using this
        · cases h2
      | succ k =>
        obtain ⟨o, ho, hq⟩ := g3 k j (by simpa using hk)
        refine ⟨o, ho, fun e he hb => ?_⟩
        rcases hq e he hb with h4 | ⟨k', h4, h5⟩
        · rw [Nat.testBit_or, Bool.or_eq_true, Nat.testBit_two_pow] at h4
          rcases h4 with h4 | h4
          · exact .inl h4
          · simp at h4; subst h4; exact .inr ⟨0, by omega, by simp⟩
        · exact .inr ⟨k' + 1, by omega, by simpa using h5⟩

theorem pairOk_spec {al : List AOper} {b : Array Nat} : ∀ {c : List Nat}, pairOk al b c = true → ∀ (k k' i j : Nat), k < k' → c[k]? = some i → c[k']? = some j → isE al i = true ∨ conflAt al i j = true → bitB b i j = true
  | [], _, k, k', i, j, _, h1, _, _ => by simp at h1
  | x :: r, h, k, k', i, j, hlt, h1, h2, h3 => by
    simp only [pairOk, Bool.and_eq_true, List.all_eq_true] at h
    cases k' with
    | zero => omega
    | succ k' =>
      cases k with
      | zero =>
        simp at h1; subst h1
        have hm : j ∈ r := List.mem_of_getElem? (i := k') (by simpa using h2)
        have := h.1 j hm
        have hor : (isE al x || conflAt al x j) = true := by
          rcases h3 with h3 | h3 <;> simp [h3]
        rw [hor] at this
        exact this
      | succ k => exact pairOk_spec h.2 k k' i j (by omega) (by simpa using h1) (by simpa using h2) h3

theorem trSeq_spec {al : List AOper} {b : Array Nat} : ∀ {c : List Nat} {L : List (AOper × Nat)}, trSeq al b c = some L → L.length = c.length ∧
    ∀ (k j : Nat), c[k]? = some j → ∃ o : AOper, al[j]? = some o ∧ L[k]? = some (o, bif isE al j || !o.op.reads then 0 else stays al b j (c.drop (k + 1)))
  | [], L, h => by cases h; exact ⟨rfl, fun k j hk => by simp at hk⟩
  | j :: r, L, h => by
    simp only [trSeq] at h
    split at h <;> cases h
    rename_i o t ho ht
    obtain ⟨g1, g2⟩ := trSeq_spec ht
    refine ⟨by simp [g1], fun k i hk => ?_⟩
    cases k with
    | zero => simp at hk; subst hk; exact ⟨o, ho, rfl⟩
    | succ k => simpa using g2 k i (by simpa using hk)

theorem stays_spec {al : List AOper} {b : Array Nat} {j : Nat} : ∀ {r : List Nat} {t i : Nat}, r[t]? = some i → isE al i = true → (∀ (k i' : Nat), k ≤ t → r[k]? = some i' → isE al i' = true → bitB b j i' = false) →
    (r.take t).countP (isE al) < stays al b j r
  | [], t, i, h, _, _ => by simp at h
  | x :: r, t, i, h, hE, hb => by
    cases t with
    | zero =>
      simp at h; subst h
      simp only [stays, hE, cond_true, hb 0 x (Nat.le_refl _) rfl hE, cond_false, List.take_zero, List.countP_nil]
      omega
    | succ t =>
      have ih := stays_spec (r := r) (t := t) (i := i) (b := b) (j := j) (by simpa using h) hE (fun k i' hk hi' hEi => hb (k + 1) i' (by omega) (by simpa using hi') hEi)
      simp only [stays, List.take_succ_cons, List.countP_cons]
      cases hx : isE al x with
      | false => simp only [cond_false]; simpa using ih
      | true =>
        simp only [cond_true, hb 0 x (by omega) rfl hx, cond_false]
        simp only [if_true]; omega

theorem isE_eq {al : List AOper} {j : Nat} {o : AOper} (h : al[j]? = some o) : isE al j = isEo o := by
  simp only [isE, h]; rfl
theorem conflAt_eq {al : List AOper} {i j : Nat} {x y : AOper} (hx : al[i]? = some x) (hy : al[j]? = some y) : conflAt al i j = confl x y := by
  simp only [conflAt, hx, hy]

theorem nodup_inj : ∀ {c : List Nat}, c.Nodup → ∀ {k k' i : Nat}, c[k]? = some i → c[k']? = some i → k = k'
  | [], _, k, k', i, h1, _ => by simp at h1
  | x :: r, h, k, k', i, h1, h2 => by
    rw [List.nodup_cons] at h
    cases k with
    | zero =>
      cases k' with
      | zero => rfl
      | succ k' =>
        simp at h1; subst h1
        exact absurd (List.mem_of_getElem? (i := k') (by simpa using h2)) h.1
    | succ k =>
      cases k' with
      | zero =>
        simp at h2; subst h2
        exact absurd (List.mem_of_getElem? (i := k) (by simpa using h1)) h.1
      | succ k' => rw [nodup_inj h.2 (k := k) (k' := k') (by simpa using h1) (by simpa using h2)]

/-- THE PLAN AND ITS RUN. -/
theorem draw_of {P : Program} {ops : Array Oper} {call : CallT} {L : List (AOper × Nat)} (htr : trDraw P ops = some L) {s s' : St} (hr : runDraw L call s [] = some s') :
    ∃ d : Draw P ops call, d.S 0 = s ∧ d.S d.N = s' := by
  unfold trDraw at htr
  split at htr <;> first | (cases htr; done) | skip
  rename_i al hal
  split at htr <;> first | (cases htr; done) | skip
  rename_i c hord
  split at htr <;> first | (cases htr; done) | skip
  rename_i hok
  simp only [orderOk, Bool.and_eq_true] at hok
  obtain ⟨⟨⟨ok1, ok2⟩, ok3⟩, ok4⟩ := hok
  obtain ⟨S, T⟩ := runDraw_trace L s [] s' hr
  obtain ⟨s1, s2, s3⟩ := seqOk_spec ok2
  obtain ⟨t1, t2⟩ := trSeq_spec htr
  obtain ⟨u1, u2⟩ := trOpers_get hal
  have cget : ∀ k, k < L.length → c[k]? = some (c.getD k 0) := fun k hk => by
    rw [List.getD_eq_getElem?_getD, List.getElem?_eq_getElem (by omega)]; rfl
  have Lget : ∀ k, k < L.length → L[k]? = some (L.getD k default) := fun k hk => by
    rw [List.getD_eq_getElem?_getD, List.getElem?_eq_getElem hk]; rfl
  have aoget : ∀ k, k < L.length → al[c.getD k 0]? = some (L.getD k default).1 ∧ (L.getD k default).2 = (bif isE al (c.getD k 0) || !(L.getD k default).1.op.reads then 0 else stays al (Region.before ops) (c.getD k 0) (c.drop (k + 1))) := fun k hk => by
    obtain ⟨o, h1, h2⟩ := t2 k _ (cget k hk)
    rw [Lget k hk] at h2
    have h3 := Option.some.inj h2
    rw [h3]; exact ⟨h1, rfl⟩
  have hidx : ∀ k, k < L.length → ∃ o, ops[c.getD k 0]? = some o := fun k hk => by
    obtain ⟨o, ho, _⟩ := s3 k _ (cget k hk)
    exact ⟨o, ho⟩
  have cnt_map : ∀ (l : List Nat) (l' : List (AOper × Nat)), l.length = l'.length → (∀ (k i : Nat) (p : AOper × Nat), l[k]? = some i → l'[k]? = some p → al[i]? = some p.1) → l.countP (isE al) = eCount l' := by
    intro l
    induction l with
    | nil => intro l' h _; cases l' with | nil => rfl | cons _ _ => simp at h
    | cons i r ih =>
      intro l' h hk
      cases l' with
      | nil => simp at h
      | cons p r' =>
        have h0 := hk 0 i p rfl rfl
        have := ih r' (by simpa using h) (fun k i p h1 h2 => hk (k + 1) i p (by simpa using h1) (by simpa using h2))
        simp only [eCount, List.countP_cons, isE_eq h0] at this ⊢
        rw [this]
  refine ⟨Draw.mk L.length (fun k => c.getD k 0) (fun k => (L.getD k default).1) (fun k => (L.getD k default).2) (fun i m => eCount ((L.take m).drop i)) (fun j i => bitB (Region.before ops) j i = true) S
    ?_ ?_ ?_ ?_ ?_ ?_ ?_ ?_ ?_, T.z, T.l⟩
  · intro k hk
    obtain ⟨o, ho⟩ := hidx k hk
    refine ⟨o, ho, ?_⟩
    obtain ⟨ao, h1, h2⟩ := u2 (c.getD k 0) o (by rw [Array.getElem?_toList]; exact ho)
    rw [(aoget k hk).1] at h1; cases h1; exact h2
  · intro k k' hk hk' he
    have h1 := cget k hk
    have h2 := cget k' hk'
    have he : c.getD k 0 = c.getD k' 0 := he
    rw [he] at h1
    exact nodup_inj s2 h1 h2
  · intro i hi
    rw [List.all_eq_true] at ok3
    have := ok3 i (by simpa using hi)
    rw [List.any_eq_true] at this
    obtain ⟨j, hj, e⟩ := this
    have e' := Nat.eq_of_beq_eq_true e
    subst e'
    obtain ⟨k, hk, hg⟩ := List.getElem_of_mem hj
    refine ⟨k, by omega, ?_⟩
    rw [List.getD_eq_getElem?_getD, List.getElem?_eq_getElem hk]; exact hg
  · intro i o ho j hj
    exact closedOk_spec ok1 ho hj
  · intro k hk o ho e he hb
    obtain ⟨o', ho', hq⟩ := s3 k _ (cget k hk)
    rw [ho] at ho'; cases ho'
    rcases hq e he hb with h | ⟨k', h1, h2⟩
    · simp at h
    · exact ⟨k', h1, by rw [List.getD_eq_getElem?_getD, h2]; rfl⟩
  · intro k k' hlt hk' hor
    have hk : k < L.length := by omega
    refine pairOk_spec ok4 k k' _ _ hlt (cget k hk) (cget k' hk') ?_
    rw [isE_eq (aoget k hk).1, conflAt_eq (aoget k hk).1 (aoget k' hk').1]; exact hor
  · intro k m hkm hm hEm hEk hrd hnb
    have hk : k < L.length := by omega
    show eCount ((L.take m).drop (k + 1)) < (L.getD k default).2
    have hEk : isEo (L.getD k default).1 = false := hEk
    have hrd : (L.getD k default).1.op.reads = true := hrd
    rw [(aoget k hk).2, isE_eq (aoget k hk).1, hEk, hrd]
    simp only [Bool.not_true, Bool.or_self, cond_false]
    have hr : (c.drop (k + 1))[m - (k + 1)]? = some (c.getD m 0) := by
      rw [List.getElem?_drop, show k + 1 + (m - (k + 1)) = m by omega]; exact cget m hm
    have := stays_spec (al := al) (b := Region.before ops) (j := c.getD k 0) hr (by rw [isE_eq (aoget m hm).1]; exact hEm) (fun q i' hq hi' hE' => by
      rw [List.getElem?_drop] at hi'
      have hlt : k + 1 + q < L.length := by omega
      rw [cget _ hlt] at hi'
      cases hi'
      rw [isE_eq (aoget _ hlt).1] at hE'
      have := hnb (k + 1 + q) (by omega) (by omega) hE'
      simpa using this)
    have hcm := cnt_map ((c.drop (k + 1)).take (m - (k + 1))) ((L.take m).drop (k + 1)) (by simp; omega) (fun q i p h1 h2 => by
      rw [List.getElem?_take] at h1
      split at h1
      · rename_i hq
        rw [List.getElem?_drop] at h1 h2
        rw [List.getElem?_take] at h2
        split at h2
        · have hlt : k + 1 + q < L.length := by omega
          rw [cget _ hlt] at h1; cases h1
          rw [Lget _ hlt] at h2; cases h2
          exact (aoget _ hlt).1
        · cases h2
      · cases h1)
    rw [← hcm]; exact this
  · intro k hk
    exact T.step k _ (Lget k hk)
  · intro k m hkm hm hEk hwk hEm hwm hcnt
    exact T.new k _ (Lget k (by omega)) hEk hwk m _ hkm (Lget m hm) hEm hwm hcnt

/-- A REGION WHOSE ORDER IS OPEN. -/
theorem draw_sound {P : Program} {ops : Array Oper} {call : CallT} {L : List (AOper × Nat)} (htr : trDraw P ops = some L) (hc : CallOK P call) {B : Nat} {ρ : Rho} {tm : List AV} {h : AHeap} {w : World} {a : Act} {s' : St}
    (hs : Sim P ρ h B w) (ht : TR ρ tm a.tmps) (hr : runDraw L call ⟨tm, h⟩ [] = some s') {ro : Option Nat} {Q : Exit → Act → World → Prop}
    (hq : ∀ ρ' a' w', a'.defers = a.defers → TR ρ' s'.tm a'.tmps → Stp P B ρ h w ρ' s'.h w' → Q .normal a' w') : wpAnyIn (FF ro) 0 P .any ops Q ops.size (Array.replicate ops.size false) a w := by
  obtain ⟨d, hd0, hdN⟩ := draw_of htr hr
  have hno : ∀ i, ¬ Dn (Array.replicate ops.size false) i := fun i h => by
    simp [Dn, Array.getD_eq_getD_getElem?, Array.getElem?_replicate] at h
    split at h <;> simp at h
  have h0 : d.At B ρ h w (Dn (Array.replicate ops.size false)) 0 ρ w :=
    ⟨Nat.zero_le _, fun k hk => by omega, fun k _ _ => hno _, by rw [hd0]; exact Stp.refl hs, fun k hk => by omega, fun i k h1 h2 => by
      have : i = 0 := by omega
      have : k = 0 := by omega
      subst_vars; exact Nat.le_refl _, fun k hk => by omega, fun k hk => by omega⟩
  obtain ⟨m, hA, hm⟩ := Draw.At.run d d.N 0 (by omega) h0
  exact d.sound hc a.defers (by rw [hd0]) (fun ρ' a' w' h1 h2 h3 => hq ρ' a' w' h1 (by rw [hdN] at h2; exact h2) (by rw [hdN] at h3; exact h3)) ops.size _ a w m ρ tm (by simp)
    (by have : ∀ l : List Bool, l.countP (fun b => !b) ≤ l.length := fun l => List.countP_le_length
        have := this (Array.replicate ops.size false).toList
        simpa using this) hA hm
    ⟨by rw [hd0], fun t => .inr ⟨fun k _ h => absurd h (hno _), by rw [hd0]⟩⟩ (fun i hi => absurd hi (hno _)) ht rfl

end Go.AM
