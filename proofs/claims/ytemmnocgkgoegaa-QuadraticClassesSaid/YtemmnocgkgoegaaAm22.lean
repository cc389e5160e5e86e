/- The machine's calls: sound. No condition. -/
import Derived.Test.YtemmnocgkgoegaaAm21
namespace Go.AM
open Go

/-- what the table of functions must be -/
def TabOK (P : Program) (T : FnTab) : Prop := ∀ f fn, T f = some fn → ∃ F, P.funcs[f]? = some F ∧ trFn P F = some fn ∧ (F.name == "runtime.NumGoroutine") = false

/-- what the answers given for functions outright must be -/
structure IOK (P : Program) (I : Oracle) : Prop where
  sound : ∀ g args av h h', I g args h = some (av, h') → ∀ ρ B w (args' : Array Value), Sim P ρ h B w → VRs ρ args args'.toList → Upon P ((callFunc g args').run P w) (Ans P B ρ h w av h')
  plain : ∀ g args r h, I g args h = some r → ∀ l, AV.fn (.yield l) [] [] ∉ args

section
variable {P : Program} {B : Nat} {ρ : Rho} {h : AHeap} {w : World} {a : Act}

theorem resOf_run (hs : Sim P ρ h B w) {tm : List AV} {tmps : Array Value} (ht : TR ρ tm tmps) : ∀ {rs : List ResultVar} {ars : List ARes} {avs : List AV}, trRes P rs = some ars → resOfs tm h ars = some avs →
    ∃ vs, (rs.mapM (fun | .tmp t => pure (tmps.getD t undef) | .cell a t => do loadVar t (← asAddr (tmps.getD a undef)) : ResultVar → Sem Value)).run P w = .ok vs w ∧ VRs ρ avs vs
  | [], ars, avs, h1, h2 => by
    simp only [trRes, Option.some.injEq] at h1; subst h1
    simp only [resOfs, Option.some.injEq] at h2; subst h2
    exact ⟨[], by simp, .nil⟩
  | .tmp t :: r, ars, avs, h1, h2 => by
    simp only [trRes] at h1
    split at h1 <;> cases h1
    rename_i l hl
    simp only [resOfs, resOf] at h2
    split at h2 <;> cases h2
    rename_i v vs e1 e2
    cases e1
    obtain ⟨us, k1, k2⟩ := resOf_run hs ht hl e2
    refine ⟨tmps.getD t undef :: us, ?_, .cons (ht.nth t) k2⟩
    rw [List.mapM_cons]
    simp only [Sem.run_bind, Sem.run_pure, Result.andThen_ok, k1]
  | .cell c t :: r, ars, avs, h1, h2 => by
    simp only [trRes] at h1
    split at h1 <;> cases h1
    rename_i n l hn hl
    simp only [resOfs, resOf] at h2
    split at h2 <;> cases h2
    rename_i v vs e1 e2
    obtain ⟨us, k1, k2⟩ := resOf_run hs ht hl e2
    have hv := ht.nth c
    generalize htc : tmps.getD c undef = vc at hv
    split at e1 <;> first | (cases e1; done) | skip
    rename_i i off heq
    rw [heq] at hv
    split at e1 <;> first | (cases e1; done) | skip
    rename_i cs hcs
    obtain ⟨rw', hg⟩ := cellsOf_some hcs
    cases hv with
    | ptr hp =>
      obtain ⟨u, q1, q2⟩ := fit_run hs hg hp hn e1
      refine ⟨u :: us, ?_, .cons q2 k2⟩
      rw [List.mapM_cons]
      have hasa : ∀ x : Addr, (asAddr (.pointer (some x))).run P w = .ok x w := fun _ => rfl
      simp only [Sem.run_bind, htc, hasa, Sem.run_pure, Result.andThen_ok, q1, k1]

theorem results_run (hs : Sim P ρ h B w) {tm : List AV} {tmps : Array Value} (ht : TR ρ tm tmps) {F : Func} {ars : List ARes} (hr : trRes P F.results.toList = some ars) {av : AV} (he : result ars tm h = some av) :
    ∃ v, (results F tmps).run P w = .ok v w ∧ VR ρ av v := by
  unfold result at he
  cases hx : resOfs tm h ars with
  | none => rw [hx] at he; cases he
  | some avs =>
    rw [hx] at he
    obtain ⟨vs, h1, h2⟩ := resOf_run hs ht hr hx
    have hm : (F.results.mapM (fun | .tmp t => pure (tmps.getD t undef) | .cell a t => do loadVar t (← asAddr (tmps.getD a undef)) : ResultVar → Sem Value)).run P w = .ok vs.toArray w := by
      rw [Array.mapM_eq_mapM_toList]
      simp only [Sem.run_map, h1, Result.andThen_ok]
    have hl := VRs.length h2
    refine ⟨if h : vs.toArray.size = 1 then vs.toArray[0] else .tuple vs.toArray, ?_, ?_⟩
    · unfold results
      rw [Sem.run_bind]
      show Result.andThen ((F.results.mapM (fun | .tmp t => pure (tmps.getD t undef) | .cell a t => do loadVar t (← asAddr (tmps.getD a undef)) : ResultVar → Sem Value)).run P w) _ = _
      rw [hm]
      rfl
    · split at he
      · rename_i v e
        cases e; cases he
        cases h2 with
        | cons hv hr' => cases hr'; exact hv
      · rename_i vs' hne e
        cases e; cases he
        have hsz : ¬ vs.toArray.size = 1 := by
          intro e1
          simp at e1
          rw [← hl] at e1
          match avs, e1 with
          | [x], _ => exact hne x rfl
        rw [dif_neg hsz]
        exact .tup h2
      · rename_i e; cases e

theorem callFunc_enter {f : FuncId} {F : Func} {c : Code} (hf : P.funcs[f]? = some F) (hname : (F.name == "runtime.NumGoroutine") = false) (hb : F.body = some c) (args : Array Value) (w : World) : (callFunc f args).run P w = .ok (.enter f args) w := by
  simp [callFunc, hf, hb]
  intro e
  simp [e] at hname

theorem TR.enter {args : List AV} {args' : Array Value} (h : VRs ρ args args'.toList) (n : Nat) : TR ρ (args ++ List.replicate (n - args.length) aundef) (args' ++ Array.replicate (n - args'.size) undef) := by
  unfold TR
  rw [Array.toList_append, VRs.length h, Array.length_toList, Array.toList_replicate]
  exact VRs.append h (VRs.replicate _ VR.undef)

theorem fn_sound (hm : P.follows .mixedOrders = true) {call : CallT} (hc : CallOK P call) {f : FuncId} {F : Func} {fn : AFn} (hf : P.funcs[f]? = some F) (htr : trFn P F = some fn) (hname : (F.name == "runtime.NumGoroutine") = false)
    {args : List AV} {n : Nat} {av : AV} {h' : AHeap} (he : finish fn.res (exec fn.body call n ⟨args ++ List.replicate (fn.nt - args.length) aundef, h⟩) = some (av, h')) (hs : Sim P ρ h B w) {args' : Array Value} (ha : VRs ρ args args'.toList) :
    Upon P ((callFunc f args').run P w) (Ans P B ρ h w av h') := by
  unfold trFn at htr
  split at htr <;> first | (cases htr; done) | skip
  rename_i c hb
  split at htr <;> cases htr
  rename_i ab rs hab hrs
  rw [callFunc_enter hf hname hb]
  show CallsIn Fence.wide 0 P f args' w _
  refine callsIn_of_wp_marks hf hb trivial ?_
  have hpost : ∀ (x : AX) (s' : St), (x = .normal ∨ x = .ret) → result rs s'.tm s'.h = some av → s'.h = h' → ∀ ρ' (a' : Act) w', TR ρ' s'.tm a'.tmps → Stp P B ρ h w ρ' s'.h w' → DOK w.heap.size w' a'.defers →
      LeavesInM Fence.wide 0 P F a'.tmps (fun e w'' => ∃ v, e = .returned v ∧ Ans P B ρ h w av h' v w'') a'.defers .returning w' := by
    intro x s' _ hr hh ρ' a' w' ht' st' hd'
    obtain ⟨qs, e1, e2, e3⟩ := hd'.ex
    rw [e1]
    refine leaves_marks qs w' st' e2 e3 fun w2 st2 => ?_
    obtain ⟨v, k1, k2⟩ := results_run st2.sim ht' hrs hr
    exact ⟨v, k1, v, rfl, ρ', k2, by rw [← hh]; exact st2⟩
  unfold finish at he
  split at he
  · rename_i s' hx
    split at he <;> cases he
    rename_i hr
    exact exec_sound hm hc c ab hab n _ _ s' hx (ro := none) hs (TR.enter ha _) (Nat.le_refl _) (DOK.nil _ _) (fun l hl => by cases hl) fun ρ' a' w' ht' st' hd' => hpost .normal s' (.inl rfl) hr rfl ρ' a' w' ht' st' hd'
  · rename_i s' hx
    split at he <;> cases he
    rename_i hr
    exact exec_sound hm hc c ab hab n _ _ s' hx (ro := none) hs (TR.enter ha _) (Nat.le_refl _) (DOK.nil _ _) (fun l hl => by cases hl) fun ρ' a' w' ht' st' hd' => hpost .ret s' (.inr rfl) hr rfl ρ' a' w' ht' st' hd'
  · cases he

theorem puts_sound : ∀ (ps : List Nat) (args : List AV) (vs : List Value) (tm : List AV) (tmps : Array Value), VRs ρ args vs → TR ρ tm tmps → TR ρ (putsT ps args tm) ((ps.zip vs).foldl (fun tmps (p : Nat × Value) => tmps.setIfInBounds p.1 p.2) tmps)
  | [], args, vs, tm, tmps, _, ht => by
    cases args <;> simpa [putsT] using ht
  | p :: ps, [], vs, tm, tmps, ha, ht => by cases ha; simpa [putsT] using ht
  | p :: ps, x :: args, vs, tm, tmps, ha, ht => by
    cases ha with
    | cons h1 h2 => exact puts_sound ps args _ _ _ h2 (ht.put p h1)

theorem yield_sound (hm : P.follows .mixedOrders = true) {call : CallT} (hc : CallOK P call) {l : Nat} {fn : Nat} {tm : List AV} {ps : List Nat} {aa ab : ACode} {pd : Option AJump} (hg : h.get l = some (.loop fn tm ps aa ab 0 pd)) {args : List AV} (hlen : args.length = ps.length)
    {n : Nat} {s1 : St} (h1 : exec aa call n ⟨putsT ps args tm, h⟩ = some (.normal, s1)) {fn1 : Nat} {tm1 : List AV} {ps1 : List Nat} {a1 b1 : ACode} {pd1 : Option AJump} (hg1 : s1.h.get l = some (.loop fn1 tm1 ps1 a1 b1 0 pd1))
    {av : AV} {h' : AHeap} (he : endRound l (exec ab call n ⟨s1.tm, s1.h.set l (.loop fn1 tm1 ps1 a1 b1 1 pd1)⟩) = some (av, h')) (hs : Sim P ρ h B w) {args' : Array Value} (ha : VRs ρ args args'.toList) {p : Place} (hp : ρ l = some p) :
    Upon P ((Instr.yield p.blk args').run P w) (Ans P B ρ h w av h') := by
  obtain ⟨L, q1, q2, q3, q4, q5, q6, q7⟩ := loopOf hs hg hp
  have hsz : args'.size = L.params.size := by
    have := VRs.length ha
    rw [← Array.length_toList, ← this, hlen, ← q3, Array.length_toList]
  rw [run_yield q1 hsz]
  show RoundIn Fence.wide 0 P p.blk L.fn _ L.assign L.body w _
  refine roundIn_of_wpIn trivial ?_
  have hF : Fence.wide.inRound p.blk = FF (some p.blk) := rfl
  rw [hF]
  have htm : TR ρ (putsT ps args tm) ((L.params.zip args').foldl (fun tmps (p : Nat × Value) => tmps.setIfInBounds p.1 p.2) L.tmps) := by
    rw [← Array.foldl_toList, Array.toList_zip, q3]
    exact puts_sound ps args _ tm L.tmps ha q2
  refine exec_sound hm hc L.assign aa q4 n _ _ s1 h1 (ρ := ρ) (B := B) (W := w.heap.size) hs htm (Nat.le_refl _) (DOK.nil _ _) (fun l' hl' => by cases hl'; exact ⟨L, q1⟩) fun ρ1 a1' w1 ht1 st1 hd1 => ?_
  have hp1 := st1.ext _ _ hp
  obtain ⟨L1, k1, k2, k3, k4, k5, k6, k7⟩ := loopOf st1.sim hg1 hp1
  have hready : L1.state = .ready := by
    revert k6; cases L1.state <;> intro k6 <;> first | rfl | cases k6
  have st2 := Sim.setLoop (L' := { L1 with state := .busy }) (st' := 1) st1.sim hg1 hp1 k1 k2 k3 k4 k5 trivial k7 fn1
  refine ⟨_, run_beginRound k1 hready, ?_⟩
  rw [putObj_eq]
  cases hx : exec ab call n ⟨s1.tm, s1.h.set l (.loop fn1 tm1 ps1 a1 b1 1 pd1)⟩ with
  | none => rw [hx] at he; cases he
  | some r =>
    obtain ⟨x, s2⟩ := r
    rw [hx] at he
    simp only [endRound] at he
    split at he <;> first | (cases he; done) | skip
    rename_i fn2 tm2 ps2 a2 b2 st pd2 hg2
    refine exec_sound hm hc L.body ab q5 n _ x s2 hx (ρ := ρ1) (B := B) (W := w.heap.size) st2.sim (ht1.mono st2.ext) (Nat.le_trans st1.size st2.size) (hd1.stp st1.sim st2) (fun l' hl' => by cases hl'; exact ⟨_, putRowW_same (Array.getElem?_eq_some_iff.1 k1).1⟩) fun ρ3 a3 w3 ht3 st3 hd3 => ?_
    have hp3 := st3.ext _ _ (st2.ext _ _ hp1)
    obtain ⟨L3, j1, j2, j3, j4, j5, j6, j7⟩ := loopOf st3.sim hg2 hp3
    have st : Stp P B ρ h w ρ3 s2.h w3 := st1.trans (st2.trans st3)
    cases x with
    | normal =>
      cases he
      have st4 := Sim.setLoop (L' := { L3 with state := .ready, pending := none }) (st' := 0) (pd' := none) st3.sim hg2 hp3 j1 j2 j3 j4 j5 trivial trivial fn2
      exact ⟨_, _, run_endRound none j1, _, rfl, ρ3, .bool _, st.trans st4⟩
    | ret =>
      cases he
      have st4 := Sim.setLoop (L' := { L3 with state := .done, pending := some .ret }) (st' := 2) (pd' := some .ret) st3.sim hg2 hp3 j1 j2 j3 j4 j5 trivial trivial fn2
      exact ⟨_, _, run_endRound (some .ret) j1, _, rfl, ρ3, .bool _, st.trans st4⟩
    | exit id =>
      cases he
      have st4 := Sim.setLoop (L' := { L3 with state := .done, pending := some (.exit id) }) (st' := 2) (pd' := some (.exit id)) st3.sim hg2 hp3 j1 j2 j3 j4 j5 trivial rfl fn2
      exact ⟨_, _, run_endRound (some (.exit id)) j1, _, rfl, ρ3, .bool _, st.trans st4⟩

/-- THE CALLS. -/
theorem callF_sound (hm : P.follows .mixedOrders = true) {T : FnTab} {I : Oracle} (hT : TabOK P T) (hI : IOK P I) : ∀ n, CallOK P (callF T I n)
  | 0 => ⟨(fun g args av h h' he => by rw [callF_zero] at he; cases he), (fun g args av h h' he => by rw [callF_zero] at he; cases he), (fun l args av h h' he => by rw [callF_zero] at he; cases he)⟩
  | n + 1 => by
    have ih := callF_sound hm hT hI n
    refine ⟨?_, ?_, ?_⟩
    · intro g args av h h' he hy args' w
      obtain ⟨l, hl⟩ := hy
      rw [callF_fn] at he
      split at he
      · rename_i r hr
        exact absurd hl (hI.plain _ _ _ _ hr l)
      · split at he <;> first | (cases he; done) | skip
        rename_i fn hfn
        obtain ⟨F, h1, h2, h3⟩ := hT g fn hfn
        unfold trFn at h2
        split at h2 <;> first | (cases h2; done) | skip
        rename_i c hb
        exact callFunc_enter h1 h3 hb args' w
    · intro g args av h h' he ρ B w args' hs ha
      rw [callF_fn] at he
      split at he
      · rename_i r hr
        cases he
        exact hI.sound g args av h h' hr ρ B w args' hs ha
      · split at he <;> first | (cases he; done) | skip
        rename_i fn hfn
        obtain ⟨F, h1, h2, h3⟩ := hT g fn hfn
        exact fn_sound hm ih h1 h2 h3 he hs ha
    · intro l args av h h' he ρ B w args' p hs hp ha
      rw [callF_yield] at he
      split at he <;> first | (cases he; done) | skip
      rename_i fn tm ps a b pd hg
      split at he <;> first | (cases he; done) | skip
      rename_i hlen
      split at he <;> first | (cases he; done) | skip
      rename_i s1 h1
      split at he <;> first | (cases he; done) | skip
      rename_i fn1 tm1 ps1 a1 b1 pd1 hg1
      exact yield_sound hm ih hg hlen h1 hg1 he hs ha hp

/-- FROM A RUN OF THE MACHINE TO A CALL: at arguments that are no references, in whatever world. -/
theorem calls_of_callF (hm : P.follows .mixedOrders = true) {T : FnTab} {I : Oracle} (hT : TabOK P T) (hI : IOK P I) {n f : Nat} {args : List AV} {args' : Array Value} {av : AV} {h' : AHeap} (he : callF T I n (.fn f) args .empty = some (av, h'))
    (ha : VRs (fun _ => none) args args'.toList) {fn : AFn} (hf : T f = some fn) (w : World) : Calls P f args' w fun e w' => (∃ v ρ', e = .returned v ∧ VR ρ' av v) ∧ RowKit.Below w.heap.size w w' := by
  have hs : Sim P (fun _ => none) .empty w.heap.size w := ⟨Nat.le_refl _, (fun i p h => by cases h), (fun i o p _ h => by cases h), (fun i j oi oj pi pj _ _ _ h => by cases h), Tidy.empty⟩
  have hup := (callF_sound hm hT hI n).fn f args av .empty h' he (fun _ => none) w.heap.size w args' hs ha
  obtain ⟨F, h1, h2, h3⟩ := hT f fn hf
  unfold trFn at h2
  split at h2 <;> first | (cases h2; done) | skip
  rename_i c hb
  rw [callFunc_enter h1 h3 hb] at hup
  have hup' : CallsIn Fence.wide 0 P f args' w _ := hup
  rw [callsIn_wide] at hup'
  intro cs
  obtain ⟨e, w', fr, ⟨v, he', ρ', hv, st⟩, rest⟩ := hup' cs
  exact ⟨e, w', fr, ⟨⟨v, ρ', he', hv⟩, st.below hs⟩, rest⟩

end
end Go.AM
