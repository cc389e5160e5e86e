/- One operation, calls and all: sound in the calculus of walks. No condition. -/
import Derived.Test.YtemmnocgkgoegaaAm15
import Derived.RangeFuncIn
import Derived.RangeFuncCalls
import Derived.OwnWalkIn
namespace Go.AM
open Go

/-- the widest fence, in a round or not -/
def FF (ro : Option Nat) : Fence := { Fence.wide with round := ro }
theorem FF_none : FF none = Fence.wide := rfl

/-- what is asked where an operation or a call has been carried out -/
def Upon (P : Program) (r : Result Next) (K : Value → World → Prop) : Prop :=
  match r with
  | .ok (.value v) w' => K v w'
  | .ok .skip w' => K undef w'
  | .ok (.enter f args) w' => CallsIn Fence.wide 0 P f args w' fun e w'' => ∃ v, e = .returned v ∧ K v w''
  | .ok (.round l f tmps assign body) w' => RoundIn Fence.wide 0 P l f tmps assign body w' fun e w'' => ∃ v, e = .returned v ∧ K v w''
  | _ => False

theorem Upon.mono {P : Program} {r : Result Next} {K K' : Value → World → Prop} (h : Upon P r K) (hk : ∀ v w, K v w → K' v w) : Upon P r K' := by
  unfold Upon at *
  split at h
  · exact hk _ _ h
  · exact hk _ _ h
  · exact CallsIn.mono h fun e w'' ⟨v, e1, e2⟩ => ⟨v, e1, hk _ _ e2⟩
  · exact RoundIn.mono h fun e w'' ⟨v, e1, e2⟩ => ⟨v, e1, hk _ _ e2⟩
  · exact h.elim

theorem Upon.uponIn {P : Program} {r : Result Next} {K : Value → World → Prop} (h : Upon P r K) {ro : Option Nat} {o : Oper} {a : Act} {next : Act → World → Prop} {Q : Exit → Act → World → Prop}
    (hk : ∀ v w, K v w → next (a.put o.dst v) w) : o.uponIn (FF ro) 0 P a next Q r := by
  unfold Upon at h
  split at h
  · exact hk _ _ h
  · exact hk _ _ h
  · rw [Oper.uponIn_enter]
    refine ⟨fun h => by simp [FF, Fence.wide] at h, ?_⟩
    have h' : CallsIn (FF ro) 0 P _ _ _ _ := h
    refine CallsIn.mono h' fun e w'' he => ?_
    obtain ⟨v, rfl, h2⟩ := he
    exact hk _ _ h2
  · rw [Oper.uponIn_round]
    refine ⟨fun h => by simp [FF, Fence.wide] at h, ?_⟩
    have h' : RoundIn (FF ro) 0 P _ _ _ _ _ _ _ := h
    refine RoundIn.mono h' fun e w'' he => ?_
    obtain ⟨v, rfl, h2⟩ := he
    exact hk _ _ h2
  · exact h.elim

theorem trOp_defer {P : Program} {op : Op} {ao : AOp} (h : trOp P op = some ao) : ∀ c, op ≠ .defer c := by
  intro c e; subst e; cases h

/-- what a call's answer says -/
abbrev Ans (P : Program) (B : Nat) (ρ : Rho) (h : AHeap) (w : World) (av : AV) (h' : AHeap) : Value → World → Prop :=
  fun v w' => ∃ ρ', VR ρ' av v ∧ Stp P B ρ h w ρ' h' w'

/-- the calls of the machine are sound -/
structure CallOK (P : Program) (call : CallT) : Prop where
  enter : ∀ g args av h h', call (.fn g) args h = some (av, h') → (∃ l, AV.fn (.yield l) [] [] ∈ args) → ∀ (args' : Array Value) (w : World), (callFunc g args').run P w = .ok (.enter g args') w
  fn : ∀ g args av h h', call (.fn g) args h = some (av, h') → ∀ ρ B w (args' : Array Value), Sim P ρ h B w → VRs ρ args args'.toList → Upon P ((callFunc g args').run P w) (Ans P B ρ h w av h')
  yield : ∀ l args av h h', call (.yield l) args h = some (av, h') → ∀ ρ B w (args' : Array Value) p, Sim P ρ h B w → ρ l = some p → VRs ρ args args'.toList → Upon P ((Instr.yield p.blk args').run P w) (Ans P B ρ h w av h')

section
variable {P : Program} {B : Nat} {ρ : Rho} {h : AHeap} {w : World} {tm : List AV} {a : Act} {o : Oper}

theorem call_sound (hs : Sim P ρ h B w) (ht : TR ρ tm a.tmps) {f : AOpd} {args : List AOpd} (htr : trOp P o.op = some (.call f args)) {call : CallT} (hc : CallOK P call) {av : AV} {h' : AHeap}
    (he : evalE (.call f args) call tm h = some (av, h')) : Upon P ((execOp a.eval o).run P w) (Ans P B ρ h w av h') := by
  cases hop : o.op with
  | call c =>
    rw [hop] at htr; simp only [trOp] at htr
    obtain ⟨callee, cargs, cts⟩ := c
    unfold trCall at htr
    cases hargs : trOpds cargs.toList with
    | none => simp only [hargs] at htr; cases htr
    | some args0 =>
      simp only [hargs] at htr
      have hvs := opds_sound ht hargs
      have hlist : (cargs.map a.eval).toList = cargs.toList.map a.eval := Array.toList_map ..
      split at htr
      · rename_i fo
        split at htr <;> cases htr
        rename_i hf
        have hvf := opd_sound ht hf
        simp only [evalE] at he
        generalize hvv : a.eval fo = vf at hvf
        split at he <;> first | (cases he; done) | skip
        · rename_i g first captured heq
          rw [heq] at hvf
          cases hvf with
          | fn hfl h1 h2 =>
            rename_i a1 b1
            have hrun : (execOp a.eval o).run P w = (callFunc g (a1 ++ cargs.map a.eval ++ b1)).run P w := by
              simp [execOp, hop, resolve, hvv, Deferred.ofValue, invoke]
            rw [hrun]
            refine hc.fn g _ av h h' he ρ B w _ hs ?_
            rw [Array.toList_append, Array.toList_append]
            exact (h1.append (by rw [hlist]; exact hvs)).append h2
        · rename_i l first captured heq
          rw [heq] at hvf
          split at he <;> first | (cases he; done) | skip
          cases hvf with
          | fn hfl h1 h2 => exact absurd rfl (hfl _)
          | yld hp =>
            rename_i p
            have hrun : (execOp a.eval o).run P w = (Instr.yield p.blk (cargs.map a.eval)).run P w := by
              simp [execOp, hop, resolve, hvv, Deferred.ofValue, invoke]
            rw [hrun]
            exact hc.yield l _ av h h' he ρ B w _ p hs hp (by rw [hlist]; exact hvs)
      · cases htr
      all_goals exfalso
      all_goals ((repeat' (split at htr)) <;> cases htr)
  | makeFunc fn f c =>
    rw [hop] at htr
    cases fn <;> simp only [trOp] at htr <;> first | (cases htr; done) | skip
    split at htr <;> cases htr
  | makeMap t r =>
    rw [hop] at htr
    cases r <;> simp only [trOp] at htr <;> cases htr
  | _ =>
    rw [hop] at htr
    simp only [trOp] at htr
    first
      | (cases htr; done)
      | ((repeat' (split at htr)) <;> cases htr)

/-- ONE OPERATION THAT TURNS THE HEAP. -/
theorem opE (hs : Sim P ρ h B w) (ht : TR ρ tm a.tmps) {ao : AOp} (htr : trOp P o.op = some ao) {call : CallT} (hc : CallOK P call) {av : AV} {h' : AHeap} (he : evalE ao call tm h = some (av, h'))
    {ro : Option Nat} {K : Act → World → Prop} {Q : Exit → Act → World → Prop} (hk : ∀ v ρ' w', VR ρ' av v → Stp P B ρ h w ρ' h' w' → K (a.put o.dst v) w') : o.wpIn (FF ro) 0 P a w K Q := by
  refine ⟨fun _ _ => trivial, ?_⟩
  rw [Oper.semAt_eq _ _ _ (trOp_defer htr)]
  cases hcl : isCall ao with
  | true =>
    cases ao <;> first | (cases hcl; done) | skip
    exact (call_sound hs ht htr hc he).uponIn fun v w' ⟨ρ', h1, h2⟩ => hk v ρ' w' h1 h2
  | false =>
    obtain ⟨nx, ρ', w', h1, h2, h3⟩ := e_sound hs ht htr hcl he
    rw [h1]
    rcases h2 with ⟨v, rfl, hv⟩ | ⟨rfl, rfl⟩
    · exact hk v ρ' w' hv h3
    · exact hk undef ρ' w' VR.undef h3

theorem opQ (hs : Sim P ρ h B w) (ht : TR ρ tm a.tmps) {ao : AOp} (htr : trOp P o.op = some ao) (hcl : ao.cls = .q) {av : AV} (he : evalQ ao tm h = some av)
    {ro : Option Nat} {K : Act → World → Prop} {Q : Exit → Act → World → Prop} (hk : ∀ v, VR ρ av v → K (a.put o.dst v) w) : o.wpIn (FF ro) 0 P a w K Q := by
  refine ⟨fun _ _ => trivial, ?_⟩
  rw [Oper.semAt_eq _ _ _ (trOp_defer htr)]
  obtain ⟨v, h1, h2⟩ := q_sound hs ht htr hcl he
  rw [h1]
  exact hk v h2

theorem opA {ρ0 : Rho} {h0 : AHeap} {w0 : World} (s : Stp P B ρ0 h0 w0 ρ h w) (ht : TR ρ tm a.tmps) {ao : AOp} (htr : trOp P o.op = some ao) {hh : AHeap} {b : AObj} {av : AV} (he : evalA ao tm hh = some (b, av))
    (hi : ρ hh.next = none) (h0i : h0.next ≤ hh.next) (hlt : hh.next < h.next) (hg : h.get hh.next = some b)
    {ro : Option Nat} {K : Act → World → Prop} {Q : Exit → Act → World → Prop} (hk : ∀ v p w', VR (upd ρ hh.next p) av v → Stp P B ρ0 h0 w0 (upd ρ hh.next p) h w' → K (a.put o.dst v) w') : o.wpIn (FF ro) 0 P a w K Q := by
  refine ⟨fun _ _ => trivial, ?_⟩
  rw [Oper.semAt_eq _ _ _ (trOp_defer htr)]
  obtain ⟨v, p, w', h1, h2, h3⟩ := a_sound s ht htr he hi h0i hlt hg
  rw [h1]
  exact hk v p w' h3 h2

theorem TR.putD (ht : TR ρ tm a.tmps) (d : Option Nat) {av : AV} {v : Value} (hv : VR ρ av v) : TR ρ (putD tm d av) (a.put d v).tmps := by
  cases d with
  | none => exact ht
  | some t => exact ht.put t hv

theorem put_defers (a : Act) (d : Option Nat) (v : Value) : (a.put d v).defers = a.defers := by cases d <;> rfl

/-- the guard -/
theorem wanted_sound (ht : TR ρ tm a.tmps) {ops : Array Oper} {o : Oper} {ao : AOper} (htr : trOper P ops o = some ao) : Region.wanted o (yielded ops a.tmps) = wanted tm ao.guard := by
  unfold trOper at htr
  unfold Region.wanted
  cases hg : o.guard with
  | none => rw [hg] at htr; cases htr; rfl
  | some p =>
    obtain ⟨j, want⟩ := p
    rw [hg] at htr
    simp only at htr
    split at htr <;> cases htr
    rename_i t hd
    have hv := ht.nth t
    have hl := VRs.length ht
    show (yielded ops a.tmps j == some want) = (match nth tm t with | .bool b => b == want | _ => false)
    unfold yielded
    rw [hd]
    simp only [Option.bind_some]
    cases hx : a.tmps[t]? with
    | none =>
      have e : a.tmps.getD t undef = undef := by simp [Array.getD_eq_getD_getElem?, hx]
      rw [e] at hv
      cases hn : nth tm t <;> rw [hn] at hv <;> cases hv <;> rfl
    | some x =>
      have e : a.tmps.getD t undef = x := by simp [Array.getD_eq_getD_getElem?, hx]
      rw [e] at hv
      cases hn : nth tm t with
      | bool b => rw [hn] at hv; cases hv; cases b <;> cases want <;> rfl
      | _ => rw [hn] at hv; cases hv <;> rfl

theorem trOper_op {ops : Array Oper} {ao : AOper} (htr : trOper P ops o = some ao) : ao.dst = o.dst ∧ (trOp P o.op = some ao.op ∨ ao.op = bad) := by
  unfold trOper at htr
  split at htr
  · cases htr
    refine ⟨rfl, ?_⟩
    cases h : trOp P o.op with
    | none => exact .inr rfl
    | some x => exact .inl rfl
  · split at htr <;> cases htr
    refine ⟨rfl, ?_⟩
    cases h : trOp P o.op with
    | none => exact .inr rfl
    | some x => exact .inl rfl

/-- ONE OPERATION OF A PLAIN REGION. -/
theorem opStep (hs : Sim P ρ h B w) (ht : TR ρ tm a.tmps) {ops : Array Oper} {ao : AOper} (htr : trOper P ops o = some ao) {call : CallT} (hc : CallOK P call) {s' : St} (he : step1 ao call ⟨tm, h⟩ = some s')
    {ro : Option Nat} {K : Act → World → Prop} {Q : Exit → Act → World → Prop} (hk : ∀ v ρ' w', TR ρ' s'.tm (a.put o.dst v).tmps → Stp P B ρ h w ρ' s'.h w' → K (a.put o.dst v) w') : o.wpIn (FF ro) 0 P a w K Q := by
  obtain ⟨hd, hop⟩ := trOper_op htr
  rcases hop with hop | hop
  · cases hcl : ao.op.cls with
    | q =>
      rw [step1_q hcl] at he
      split at he <;> cases he
      rename_i av hev
      refine opQ hs ht hop hcl hev fun v hv => ?_
      rw [hd] at hk
      exact hk v ρ w (ht.putD _ hv) (Stp.refl hs)
    | a =>
      rw [step1_a hcl] at he
      split at he <;> cases he
      rename_i b av hev
      have hnone : ρ h.next = none := by
        cases e : ρ h.next with
        | none => rfl
        | some q => exact absurd (hs.dom _ _ e) (Nat.lt_irrefl _)
      refine opA ((Stp.refl hs).ghost b) ht hop hev hnone (Nat.le_refl _) (by simp) (AHeap.get_push_same _ _) fun v p w' hv hst => ?_
      rw [hd] at hk
      exact hk v _ w' ((ht.mono hst.ext).putD _ hv) hst
    | e =>
      rw [step1_e hcl] at he
      split at he <;> cases he
      rename_i av h' hev
      refine opE hs ht hop hc hev fun v ρ' w' hv hst => ?_
      rw [hd] at hk
      exact hk v ρ' w' ((ht.mono hst.ext).putD _ hv) hst
  · have hcl : ao.op.cls = .q := by rw [hop]; rfl
    rw [step1_q hcl, hop, bad_eval] at he
    cases he

theorem trOpers_get {ops : Array Oper} : ∀ {l : List Oper} {al : List AOper}, trOpers P ops l = some al → al.length = l.length ∧ ∀ (k : Nat) o, l[k]? = some o → ∃ ao, al[k]? = some ao ∧ trOper P ops o = some ao
  | [], al, h => by cases h; exact ⟨rfl, fun k o hk => by simp at hk⟩
  | o :: r, al, h => by
    simp only [trOpers] at h
    split at h <;> cases h
    rename_i ao l h1 h2
    obtain ⟨e1, e2⟩ := trOpers_get h2
    refine ⟨by simp [e1], fun k o' hk => ?_⟩
    cases k with
    | zero => simp at hk; subst hk; exact ⟨ao, rfl, h1⟩
    | succ k => simpa using e2 k o' (by simpa using hk)

/-- A PLAIN REGION. -/
theorem ops_sound {ops : Array Oper} {call : CallT} (hc : CallOK P call) {ro : Option Nat} {Q : Exit → Act → World → Prop} : ∀ (n j : Nat) (al : List AOper) {ρ : Rho} {tm : List AV} {h : AHeap} {w : World} {a : Act} {s' : St},
    j + n = ops.size → al.length = n → (∀ (k : Nat) o, k < n → ops[j + k]? = some o → ∃ ao, al[k]? = some ao ∧ trOper P ops o = some ao) → Sim P ρ h B w → TR ρ tm a.tmps → runOps al call ⟨tm, h⟩ = some s' →
    (∀ ρ' a' w', a'.defers = a.defers → TR ρ' s'.tm a'.tmps → Stp P B ρ h w ρ' s'.h w' → Q .normal a' w') → wpOpsIn (FF ro) 0 P ops Q (List.range' j n) a w
  | 0, j, al, ρ, tm, h, w, a, s', _, hl, _, hs, ht, hr, hq => by
    obtain rfl := List.eq_nil_of_length_eq_zero hl
    rw [runOps_nil] at hr; cases hr
    exact hq ρ a w rfl ht (Stp.refl hs)
  | n + 1, j, al, ρ, tm, h, w, a, s', hj, hl, hget, hs, ht, hr, hq => by
    cases al with
    | nil => simp at hl
    | cons ao al =>
      have hjlt : j < ops.size := by omega
      obtain ⟨ao', e1, e2⟩ := hget 0 ops[j] (by omega) (by simp [hjlt])
      simp at e1; subst e1
      rw [List.range'_succ]
      simp only [wpOpsIn, Array.getElem?_eq_getElem hjlt]
      rw [runOps_cons] at hr
      rw [wanted_sound ht e2]
      have hrest : ∀ (k : Nat) o, k < n → ops[j + 1 + k]? = some o → ∃ ao, al[k]? = some ao ∧ trOper P ops o = some ao := fun k o hk ho => by
        have := hget (k + 1) o (by omega) (by rw [show j + (k + 1) = j + 1 + k by omega]; exact ho)
        simpa using this
      by_cases hw : wanted tm ao.guard = true
      · simp only [hw, if_true] at hr ⊢
        cases hst : step1 ao call ⟨tm, h⟩ with
        | none => rw [hst] at hr; cases hr
        | some s1 =>
          rw [hst] at hr
          obtain ⟨tm1, h1⟩ := s1
          refine opStep hs ht e2 hc hst fun v ρ' w' ht' hst' => ?_
          refine ops_sound hc n (j + 1) al (by omega) (by simpa using hl) hrest hst'.sim ht' hr fun ρ2 a2 w2 hd2 ht2 hst2 => ?_
          exact hq ρ2 a2 w2 (by rw [hd2, put_defers]) ht2 (hst'.trans hst2)
      · simp only [hw] at hr ⊢
        refine ⟨fun _ _ => trivial, ?_⟩
        refine ops_sound hc n (j + 1) al (by omega) (by simpa using hl) hrest hs (by rw [← (trOper_op e2).1]; exact ht.putD ao.dst VR.undef) hr fun ρ2 a2 w2 hd2 ht2 hst2 => ?_
        exact hq ρ2 a2 w2 (by rw [hd2, put_defers]) ht2 hst2

end
end Go.AM
