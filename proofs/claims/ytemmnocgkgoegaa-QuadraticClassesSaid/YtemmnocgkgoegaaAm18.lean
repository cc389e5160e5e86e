/- A region whose order is open: whatever order is drawn, it comes to what the plan's order comes to. No condition. -/
import Derived.Test.YtemmnocgkgoegaaAm17
namespace Go.AM
open Go

theorem wanted_congr {tm tm' : List AV} {o : AOper} (h : ∀ t ∈ o.temps, nth tm t = nth tm' t) : wanted tm o.guard = wanted tm' o.guard := by
  cases hg : o.guard with
  | none => rfl
  | some p =>
    obtain ⟨t, want⟩ := p
    have := h t (by simp [AOper.temps, hg])
    show (match nth tm t with | .bool b => b == want | _ => false) = (match nth tm' t with | .bool b => b == want | _ => false)
    rw [this]
theorem temps_op {o : AOper} {t : Nat} (h : t ∈ o.op.temps) : t ∈ o.temps := by
  unfold AOper.temps; split
  · exact List.mem_cons_of_mem _ h
  · exact h

theorem AObj.beqC_eq {x : Option AObj} {y : AObj} (h : AObj.beqC x y = true) : x = some y := by
  unfold AObj.beqC at h
  split at h
  · simp only [Bool.and_eq_true] at h
    obtain ⟨h1, h2⟩ := h
    rw [AV.eqs_of_beqs h1, eq_of_beq h2]
  · rfl
  · cases h

theorem count_set : ∀ {l : List Bool} {i : Nat}, l[i]? = some false → (l.set i true).countP (fun b => !b) + 1 = l.countP (fun b => !b)
  | [], i, h => by simp at h
  | b :: l, 0, h => by simp at h; subst h; simp
  | b :: l, i + 1, h => by
    have := count_set (l := l) (i := i) (by simpa using h)
    simp only [List.set_cons_succ, List.countP_cons]
    omega

abbrev Dn (listed : Array Bool) : Nat → Prop := fun i => listed.getD i false = true
theorem Dn_set {listed : Array Bool} {i : Nat} (hi : i < listed.size) : Dn (listed.setIfInBounds i true) = fun j => j = i ∨ Dn listed j := by
  funext j
  apply propext
  simp only [Dn, Array.getD_eq_getD_getElem?]
  by_cases e : j = i
  · subst e; simp [hi]
  · rw [Array.getElem?_setIfInBounds_ne (Ne.symm e)]; simp [e]

section
variable {P : Program} {ops : Array Oper} {call : CallT} (d : Draw P ops call) {B : Nat} {ρ0 : Rho} {h0 : AHeap} {w0 : World}

/-- one of those that wait is done -/
theorem Draw.At.more {D : Nat → Prop} {m : Nat} {ρ : Rho} {w : World} (A : d.At B ρ0 h0 w0 D m ρ w) {k : Nat} (hk : k < m) {ρ' : Rho} {w' : World} (hst : Stp P B ρ0 h0 w0 ρ' (d.S m).h w')
    (hgh : ∀ k', k' < m → k' ≠ k → (d.ao k').op.cls = .a → wanted (d.S k').tm (d.ao k').guard = true → ρ (d.S k').h.next = none → ρ' (d.S k').h.next = none) : d.At B ρ0 h0 w0 (fun i => i = d.idx k ∨ D i) m ρ' w' where
  le := A.le
  ahead := fun k' h1 h2 => .inr (A.ahead k' h1 h2)
  behind := fun k' h1 h2 h3 => by
    rcases h3 with h3 | h3
    · have := d.inj k' k h2 (by have := A.le; omega) h3; omega
    · exact A.behind k' h1 h2 h3
  stp := hst
  ghost := fun k' h1 h2 h3 h4 => hgh k' h1 (fun e => h2 (.inl (by rw [e]))) h3 h4 (A.ghost k' h1 (fun e => h2 (.inr e)) h3 h4)
  mono := A.mono
  pendQ := fun k' h1 h2 h3 h4 => A.pendQ k' h1 (fun e => h2 (.inr e)) h3 h4
  pendA := fun k' h1 h2 h3 h4 => A.pendA k' h1 (fun e => h2 (.inr e)) h3 h4

theorem Draw.next_a {k : Nat} (hk : k < d.N) (hc : (d.ao k).op.cls = .a) (hw : wanted (d.S k).tm (d.ao k).guard = true) : (d.S (k + 1)).h.next = (d.S k).h.next + 1 := by
  rcases (d.step k hk).spec with ⟨_, hcl, _⟩ | ⟨_, _, b, v, _, e⟩ | ⟨_, hcl, _⟩ | ⟨hw', _⟩
  · rw [hc] at hcl; cases hcl
  · rw [e]; rfl
  · rw [hc] at hcl; cases hcl
  · rw [hw] at hw'; cases hw'

/-- what turns the heap is done: one place on -/
theorem Draw.At.turn {D : Nat → Prop} {m : Nat} {ρ : Rho} {w : World} (A : d.At B ρ0 h0 w0 D m ρ w) (hm : m < d.N) (hE : isEo (d.ao m) = true) (hcl : d.Cl D) (hrd : ∀ j, d.bit j (d.idx m) → D j) {ρ' : Rho} {w' : World}
    (hst : Stp P B ρ (d.S m).h w ρ' (d.S (m + 1)).h w') (hsame : wanted (d.S m).tm (d.ao m).guard = false → (d.S (m + 1)).h = (d.S m).h) : d.At B ρ0 h0 w0 (fun i => i = d.idx m ∨ D i) (m + 1) ρ' w' where
  le := hm
  ahead := fun k h1 h2 => by
    by_cases e : k = m
    · exact .inl (by rw [e])
    · exact .inr (A.ahead k (by omega) h2)
  behind := fun k h1 h2 h3 => by
    rcases h3 with h3 | h3
    · have := d.inj k m h2 hm h3; omega
    · exact A.behind k (by omega) h2 h3
  stp := A.stp.trans hst
  ghost := fun k h1 h2 h3 h4 => by
    have hkm : k < m := by
      have : k ≠ m := fun e => h2 (.inl (by rw [e]))
      omega
    have h5 := A.ghost k hkm (fun e => h2 (.inr e)) h3 h4
    have h6 := d.next_a (by omega) h3 h4
    have h7 := A.mono (k + 1) m hkm (Nat.le_refl _)
    cases e : ρ' (d.S k).h.next with
    | none => rfl
    | some p =>
      rcases hst.fresh _ _ e with h8 | h8
      · rw [h5] at h8; cases h8
      · omega
  mono := fun i k h1 h2 => by
    by_cases e : k = m + 1
    · subst e
      by_cases ei : i = m + 1
      · subst ei; exact Nat.le_refl _
      · exact Nat.le_trans (A.mono i m (by omega) (Nat.le_refl _)) hst.next
    · exact A.mono i k h1 (by omega)
  pendQ := fun k h1 h2 h3 h4 => by
    have hkm : k < m := by
      have : k ≠ m := fun e => h2 (.inl (by rw [e]))
      omega
    have hnD : ¬ D (d.idx k) := fun e => h2 (.inr e)
    obtain ⟨v, q1, q2⟩ := A.pendQ k hkm hnD h3 h4
    cases hr : (d.ao k).op.reads with
    | false => exact ⟨v, by rw [← q1]; exact evalQ_noreads hr, q2⟩
    | true =>
      cases hwm : wanted (d.S m).tm (d.ao m).guard with
      | false => exact ⟨v, by rw [hsame hwm]; exact q1, q2⟩
      | true =>
        have hEk : isEo (d.ao k) = false := by unfold isEo; rw [h3]
        have hcnt := d.stay k m hkm hm hE hEk hr fun m' g1 g2 g3 g4 => by
          by_cases e : m' = m
          · subst e; exact hnD (hrd _ g4)
          · exact hnD (hcl _ (A.ahead m' (by omega) g3) _ g4)
        have hck := d.chk k m hkm hm hEk h4 hE hwm hcnt
        simp only [recheck, h3] at hck
        split at hck
        · rename_i v' hv'
          have hv2 := AV.eq_of_beq hck
          refine ⟨v', hv', ?_⟩
          rw [hv2]
          obtain ⟨u, hu⟩ := (d.step k (by omega)).tm
          have : outOf (d.ao k) (d.S (k + 1)) = outOf (d.ao k) ⟨putD (d.S k).tm (d.ao k).dst u, (d.S k).h⟩ := by simp only [outOf, hu]
          rw [this, putD_outOf, hu]
        · cases hck
  pendA := fun k h1 h2 h3 h4 => by
    have hkm : k < m := by
      have : k ≠ m := fun e => h2 (.inl (by rw [e]))
      omega
    have hnD : ¬ D (d.idx k) := fun e => h2 (.inr e)
    obtain ⟨b, v, q1, q2, q3⟩ := A.pendA k hkm hnD h3 h4
    cases hwm : wanted (d.S m).tm (d.ao m).guard with
    | false => exact ⟨b, v, q1, q2, by rw [hsame hwm]; exact q3⟩
    | true =>
      have hEk : isEo (d.ao k) = false := by unfold isEo; rw [h3]
      have hr : (d.ao k).op.reads = true := by
        revert h3
        cases (d.ao k).op <;> intro h3 <;> first | (cases h3; done) | rfl
      have hcnt := d.stay k m hkm hm hE hEk hr fun m' g1 g2 g3 g4 => by
        by_cases e : m' = m
        · subst e; exact hnD (hrd _ g4)
        · exact hnD (hcl _ (A.ahead m' (by omega) g3) _ g4)
      have hck := d.chk k m hkm hm hEk h4 hE hwm hcnt
      simp only [recheck, h3, q1] at hck
      exact ⟨b, v, q1, q2, AObj.beqC_eq hck⟩

/-- WHATEVER THE ORDER. -/
theorem Draw.sound (hc : CallOK P call) {ro : Option Nat} {Q : Exit → Act → World → Prop} (ds : List Deferred) (h0n : (d.S 0).h.next = h0.next)
    (hq : ∀ ρ' a' w', a'.defers = ds → TR ρ' (d.S d.N).tm a'.tmps → Stp P B ρ0 h0 w0 ρ' (d.S d.N).h w' → Q .normal a' w') :
    ∀ (fuel : Nat) (listed : Array Bool) (a : Act) (w : World) (m : Nat) (ρ : Rho) (tmA : List AV), listed.size = ops.size → listed.toList.countP (fun b => !b) ≤ fuel → d.At B ρ0 h0 w0 (Dn listed) m ρ w →
      (m = d.N ∨ (m < d.N ∧ isEo (d.ao m) = true)) → d.Tm (Dn listed) tmA → d.Cl (Dn listed) → TR ρ tmA a.tmps → a.defers = ds → wpAnyIn (FF ro) 0 P .any ops Q fuel listed a w := by
  have fin : ∀ (listed : Array Bool) (a : Act) (w : World) (m : Nat) (ρ : Rho) (tmA : List AV), d.At B ρ0 h0 w0 (Dn listed) m ρ w → (m = d.N ∨ (m < d.N ∧ isEo (d.ao m) = true)) → d.Tm (Dn listed) tmA → TR ρ tmA a.tmps → a.defers = ds →
      (∀ k, k < d.N → Dn listed (d.idx k)) → Q .normal a w := by
    intro listed a w m ρ tmA A hm T ht hd hall
    have : m = d.N := by
      rcases hm with h | ⟨h, _⟩
      · exact h
      · exact absurd (hall m h) (A.behind m (Nat.le_refl _) h)
    subst this
    refine hq ρ a w hd ?_ A.stp
    rw [← T.all d hall]; exact ht
  intro fuel
  induction fuel with
  | zero =>
    intro listed a w m ρ tmA hsz hcount A hm T hcl ht hd
    have hall : ∀ i, i < ops.size → Dn listed i := by
      intro i hi
      have hc0 : listed.toList.countP (fun b => !b) = 0 := by omega
      rw [List.countP_eq_zero] at hc0
      have hi' : i < listed.size := by omega
      have := hc0 listed[i] (by simp)
      simpa [Dn, hi'] using this
    refine ⟨?_, fin listed a w m ρ tmA A hm T ht hd fun k hk => ?_⟩
    · simp only [Region.ready, List.filter_eq_nil_iff]
      intro i hi h
      have hi' : i < ops.size := by simpa using hi
      have := hall i hi'
      have hi2 : i < listed.size := by omega
      simp [Dn, hi2] at this
      simp [hi2, this] at h
    · obtain ⟨o, ho, _⟩ := d.get k hk
      exact hall _ (Array.getElem?_eq_some_iff.1 ho).1
  | succ fuel ih =>
    intro listed a w m ρ tmA hsz hcount A hm T hcl ht hd
    refine ⟨fun hnil => fin listed a w m ρ tmA A hm T ht hd ?_, fun i hi => ?_⟩
    · intro k
      induction k using Nat.strongRecOn with
      | ind k ihk =>
        intro hk
        obtain ⟨o, ho, _⟩ := d.get k hk
        have hlt := (Array.getElem?_eq_some_iff.1 ho).1
        have hlt' : d.idx k < listed.size := by omega
        apply Classical.byContradiction
        intro hnD
        have hmem : d.idx k ∈ Region.ready .any ops listed := by
          simp only [Region.ready, List.mem_filter, List.mem_range]
          refine ⟨hlt, ?_⟩
          have hf : listed[d.idx k] = false := by simpa [Dn, hlt'] using hnD
          simp only [Bool.and_eq_true, Bool.not_eq_true']
          refine ⟨by simp [hlt', hf], ?_⟩
          rw [ho]
          simp only [Option.map_some, Option.getD_some, Array.all_eq_true_iff_forall_mem, Bool.or_eq_true, Bool.not_eq_true']
          intro e he
          cases hb : Region.binds .any e with
          | false => exact .inl rfl
          | true =>
            obtain ⟨k', h1, h2⟩ := d.seq k hk o ho e he hb
            have := ihk k' h1 (by omega)
            rw [h2] at this
            exact .inr this
        rw [hnil] at hmem
        cases hmem
    · simp only [Region.ready, List.mem_filter, List.mem_range, Bool.and_eq_true, Bool.not_eq_true'] at hi
      obtain ⟨hlt, hnl, hready⟩ := hi
      have hlt' : i < listed.size := by omega
      have hf : listed[i] = false := by simpa [hlt'] using hnl
      obtain ⟨k, hk, rfl⟩ := d.surj i hlt
      obtain ⟨o, ho, hao⟩ := d.get k hk
      have hnD : ¬ Dn listed (d.idx k) := by simp [Dn, hlt', hf]
      rw [ho] at hready
      simp only [Option.map_some, Option.getD_some, Array.all_eq_true_iff_forall_mem, Bool.or_eq_true, Bool.not_eq_true'] at hready
      have hrd : ∀ j, d.bit j (d.idx k) → Dn listed j := by
        intro j hj
        obtain ⟨e, he, hb, hor⟩ := d.closed _ o ho j hj
        have hDe : Dn listed e.on := by
          rcases hready e he with h | h
          · rw [hb] at h; cases h
          · exact h
        rcases hor with rfl | h
        · exact hDe
        · exact hcl _ hDe _ h
      have hreads := T.reads d hcl hk hnD hrd
      have hkm : k ≤ m := by
        apply Classical.byContradiction
        intro hgt
        rcases hm with h | ⟨h1, h2⟩
        · omega
        · exact A.behind m (Nat.le_refl _) h1 (hrd _ (d.pair m k (by omega) hk (.inl h2)))
      have hcl' : d.Cl (fun j => j = d.idx k ∨ Dn listed j) := by
        intro i' hi' j hj
        rcases hi' with rfl | hi'
        · exact .inr (hrd j hj)
        · exact .inr (hcl _ hi' j hj)
      have hset := Dn_set hlt'
      have hsz' : (listed.setIfInBounds (d.idx k) true).size = ops.size := by simpa using hsz
      have hcnt' : (listed.setIfInBounds (d.idx k) true).toList.countP (fun b => !b) ≤ fuel := by
        rw [Array.toList_setIfInBounds]
        have := count_set (l := listed.toList) (i := d.idx k) (by simp [hlt', hf])
        omega
      obtain ⟨hdst, hop⟩ := trOper_op hao
      have hwant : Region.wanted o (yielded ops a.tmps) = wanted (d.S k).tm (d.ao k).guard := by rw [wanted_sound ht hao]; exact (wanted_congr hreads).symm
      -- what comes behind, at any of the cases
      have go : ∀ (av : AV) (v : Value) (m' : Nat) (ρ' : Rho) (w' : World), d.At B ρ0 h0 w0 (fun j => j = d.idx k ∨ Dn listed j) m' ρ' w' → (m' = d.N ∨ (m' < d.N ∧ isEo (d.ao m') = true)) → (d.S (k + 1)).tm = putD (d.S k).tm (d.ao k).dst av → VR ρ' av v → Ext ρ ρ' →
          wpAnyIn (FF ro) 0 P .any ops Q fuel (listed.setIfInBounds (d.idx k) true) (a.put o.dst v) w' := by
        intro av v m' ρ' w' A' hm' hS hv hx
        refine ih _ _ _ m' ρ' (putD tmA (d.ao k).dst av) hsz' hcnt' (by rw [hset]; exact A') hm' (by rw [hset]; exact T.put d hcl hk hnD hS) (by rw [hset]; exact hcl') ?_ (by rw [put_defers, hd])
        rw [← hdst]; exact (ht.mono hx).putD _ hv
      have hreads' : ∀ t ∈ (d.ao k).op.temps, nth (d.S k).tm t = nth tmA t := fun t ht => hreads t (temps_op ht)
      unfold wpOpIn
      simp only [ho]
      rw [hwant]
      rcases Nat.lt_or_eq_of_le hkm with hlt2 | rfl
      · -- one that waits
        have hEk : isEo (d.ao k) = false := by
          cases h : isEo (d.ao k) with
          | false => rfl
          | true => exact absurd (A.ahead k hlt2 h) hnD
        rcases (d.step k hk).spec with ⟨hw, hcls, u, hu, e⟩ | ⟨hw, hcls, b0, u, hu, e⟩ | ⟨hw, hcls, u, h', hu, e⟩ | ⟨hw, e⟩
        · rw [if_pos hw]
          obtain ⟨v, q1, q2⟩ := A.pendQ k hlt2 hnD hcls hw
          rcases hop with hop | hop
          · rw [evalQ_congr hreads'] at q1
            exact opQ A.stp.sim ht hop hcls q1 fun vv hvv => go v vv m ρ w (A.more d hlt2 A.stp fun _ _ _ _ _ h => h) hm q2.symm hvv (Ext.refl _)
          · rw [hop, bad_eval] at q1; cases q1
        · rw [if_pos hw]
          obtain ⟨b, v, q1, q2, q3⟩ := A.pendA k hlt2 hnD hcls hw
          have hgn := A.ghost k hlt2 hnD hcls hw
          have hn1 := d.next_a hk hcls hw
          have hn2 := A.mono (k + 1) m hlt2 (Nat.le_refl _)
          have hn3 := A.mono 0 k (Nat.zero_le _) (by omega)
          rcases hop with hop | hop
          · rw [evalA_congr hreads'] at q1
            refine opA A.stp ht hop q1 hgn (by omega) (by omega) q3 fun vv p w' hvv hst => ?_
            refine go v vv m _ w' (A.more d hlt2 hst fun k' g1 g2 g3 g4 g5 => ?_) hm q2.symm hvv (Ext.upd _ hgn)
            have hne : (d.S k').h.next ≠ (d.S k).h.next := by
              have hn4 := d.next_a (by omega) g3 g4
              rcases Nat.lt_or_gt_of_ne g2 with h | h
              · have := A.mono (k' + 1) k h (by omega); omega
              · have := A.mono (k + 1) k' h (by omega); omega
            rw [upd_ne _ _ hne]; exact g5
          · rw [hop] at hcls; cases hcls
        · simp [isEo, hcls] at hEk
        · rw [if_neg (by rw [hw]; exact Bool.false_ne_true)]
          exact ⟨fun _ _ => trivial, go aundef undef m ρ w (A.more d hlt2 A.stp fun _ _ _ _ _ h => h) hm (by rw [e]) VR.undef (Ext.refl _)⟩
      · -- the next that turns the heap
        have hE : isEo (d.ao k) = true := by
          rcases hm with h | ⟨_, h⟩
          · omega
          · exact h
        have turned : ∀ (ρ' : Rho) (w' : World), Stp P B ρ (d.S k).h w ρ' (d.S (k + 1)).h w' → (wanted (d.S k).tm (d.ao k).guard = false → (d.S (k + 1)).h = (d.S k).h) →
            ∃ m', d.At B ρ0 h0 w0 (fun j => j = d.idx k ∨ Dn listed j) m' ρ' w' ∧ (m' = d.N ∨ (m' < d.N ∧ isEo (d.ao m') = true)) := fun ρ' w' hst hsm =>
          Draw.At.run d (d.N - (k + 1)) (k + 1) (by omega) (A.turn d hk hE hcl hrd hst hsm)
        rcases (d.step k hk).spec with ⟨hw, hcls, u, hu, e⟩ | ⟨hw, hcls, b0, u, hu, e⟩ | ⟨hw, hcls, u, h', hu, e⟩ | ⟨hw, e⟩
        · simp [isEo, hcls] at hE
        · simp [isEo, hcls] at hE
        · rw [if_pos hw]
          rcases hop with hop | hop
          · rw [evalE_congr hreads'] at hu
            refine opE A.stp.sim ht hop hc hu fun vv ρ' w' hvv hst => ?_
            obtain ⟨m', A', hm'⟩ := turned ρ' w' (by rw [e]; exact hst) (fun hf => by rw [hw] at hf; cases hf)
            exact go u vv m' ρ' w' A' hm' (by rw [e]) hvv hst.ext
          · rw [hop] at hcls; cases hcls
        · rw [if_neg (by rw [hw]; exact Bool.false_ne_true)]
          have eh : (d.S (k + 1)).h = (d.S k).h := by rw [e]
          obtain ⟨m', A', hm'⟩ := turned ρ w (by rw [eh]; exact Stp.refl A.stp.sim) (fun _ => eh)
          exact ⟨fun _ _ => trivial, go aundef undef m' ρ w A' hm' (by rw [e]) VR.undef (Ext.refl _)⟩

end
end Go.AM
