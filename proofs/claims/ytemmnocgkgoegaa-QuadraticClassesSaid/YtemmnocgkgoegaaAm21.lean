/- The machine's code: sound in the calculus of walks. No condition. -/
import Derived.Test.YtemmnocgkgoegaaAm20
namespace Go.AM
open Go

def exitOf : AX → Exit
  | .normal => .normal
  | .exit id => .exit id
  | .ret => .ret

/-- what is asked at the end of a piece of code -/
abbrev Post (P : Program) (B W : Nat) (ρ : Rho) (h : AHeap) (w : World) (x : AX) (s' : St) (Q : Exit → Act → World → Prop) : Prop :=
  ∀ ρ' a' w', TR ρ' s'.tm a'.tmps → Stp P B ρ h w ρ' s'.h w' → DOK W w' a'.defers → Q (exitOf x) a' w'

/-- in a round, the loop's record is there -/
abbrev InR (ro : Option Nat) (w : World) : Prop := ∀ l, ro = some l → ∃ r, w.heap[l]? = some (.loop r)

section
variable {P : Program} {B W : Nat} {ρ : Rho} {h : AHeap} {w : World} {a : Act} {call : CallT}

theorem InR.stp {ro : Option Nat} (hi : InR ro w) {ρ' : Rho} {h' : AHeap} {w' : World} (s : Stp P B ρ h w ρ' h' w') : InR ro w' := fun l hl => let ⟨r, hr⟩ := hi l hl; s.loops l r hr

theorem putObj_eq (w : World) (r : Nat) (o : Obj) : w.putObj r o = putRowW w r o := rfl

/-- a loop's record is rewritten -/
theorem Sim.setLoop (hs : Sim P ρ h B w) {i : Nat} {fn : Nat} {tm tm' : List AV} {ps ps' : List Nat} {a b a' b' : ACode} {st st' : Nat} {pd pd' : Option AJump} {p : Place} {L L' : Loop} (hg : h.get i = some (.loop fn tm ps a b st pd)) (hp : ρ i = some p)
    (hL : w.heap[p.blk]? = some (.loop L)) (h1 : VRs ρ tm' L'.tmps.toList) (h2 : L'.params.toList = ps') (h3 : tr P L'.assign = some a') (h4 : tr P L'.body = some b') (h5 : stateR st' L'.state) (h6 : pendR pd' L'.pending) (fn' : Nat) :
    Stp P B ρ h w ρ (h.set i (.loop fn' tm' ps' a' b' st' pd')) (putRowW w p.blk (.loop L')) := by
  obtain ⟨o1, o2, o3, _⟩ := hs.obj i _ p hg hp
  have hlt := (Array.getElem?_eq_some_iff.1 hL).1
  refine hs.putObj hg hp rfl o2 o1 rfl ?_ (fun _ => ⟨_, rfl⟩) ⟨o1, o2, o3, L', putRowW_same hlt, h1, h2, h3, h4, h5, h6⟩
  intro q ⟨c, r, hc⟩ pq hpq e
  obtain ⟨cc, el, fr, k1, _⟩ := hs.obj q _ pq hc hpq
  rw [e, hL] at k1; cases k1

theorem loopOf (hs : Sim P ρ h B w) {i : Nat} {fn : Nat} {tm : List AV} {ps : List Nat} {a b : ACode} {st : Nat} {pd : Option AJump} {p : Place} (hg : h.get i = some (.loop fn tm ps a b st pd)) (hp : ρ i = some p) :
    ∃ L : Loop, w.heap[p.blk]? = some (.loop L) ∧ VRs ρ tm L.tmps.toList ∧ L.params.toList = ps ∧ tr P L.assign = some a ∧ tr P L.body = some b ∧ stateR st L.state ∧ pendR pd L.pending := by
  obtain ⟨_, _, _, L, k⟩ := hs.obj i _ p hg hp
  exact ⟨L, k⟩

/-- A RANGE OVER A FUNCTION, its record's block once laid. -/
theorem range_core (hc : CallOK P call) {f : Operand} {af : AOpd} {ps : Array Tmp} {assign body : Code} {aa ab : ACode} (hf : trOpd f = some af) (ha : tr P assign = some aa) (hb : tr P body = some ab) {s s' : St} {x : AX} {fuel : Nat}
    (he : exec (.rangeFunc af ps.toList aa ab) call fuel s = some (x, s')) (_hs : Sim P ρ s.h B w) (ht : TR ρ s.tm a.tmps) {ro : Option Nat} {Q : Exit → Act → World → Prop} (hq : Post P B W ρ s.h w x s' Q)
    {wj : World} (hj : Stp P B ρ s.h w ρ s.h wj) {mark : List Deferred} (hd : DOK W wj (mark ++ a.defers)) {L : Loop} (hLt : L.tmps = a.tmps) (hLp : L.params = ps) (hLa : L.assign = assign) (hLb : L.body = body) (hLs : L.state = .ready) (hLn : L.pending = none) :
    ∃ (d : Deferred) (w₁' : World) (g : FuncId) (args : Array Value) (w₂ : World), (resolve a.eval (rangeCall f wj.heap.size) 0).run P (wj.alloc (.loop L)) = .ok d w₁' ∧ (invoke d.target d.args).run P w₁' = .ok (.enter g args) w₂ ∧
      CallsIn (FF ro) 0 P g args w₂ (rangePost (FF ro) 0 P wj.heap.size Q { a with defers := mark ++ a.defers }) := by
  rw [exec_range] at he
  have hv := opd_sound ht hf
  generalize hvf : a.eval f = vf at hv
  split at he <;> first | (cases he; done) | skip
  rename_i g first captured heq
  rw [heq] at hv
  split at he <;> first | (cases he; done) | skip
  rename_i rv h2 hcall
  cases hv with
  | fn hfl h1 h2' =>
    rename_i a1 b1
    have hsj := hj.sim
    have hnone : ρ s.h.next = none := noDom hsj
    have hx : Ext ρ (upd ρ s.h.next ⟨wj.heap.size, 0, 1⟩) := Ext.upd _ hnone
    have st1 := hsj.push (.loop 0 s.tm ps.toList aa ab 0 none) (.loop L) ⟨wj.heap.size, 0, 1⟩ rfl
      ⟨rfl, rfl, hsj.low, L, by show (wj.heap.push _)[wj.heap.size]? = _; simp, by rw [hLt]; exact VRs.mono hx ht, by rw [hLp], by rw [hLa]; exact ha, by rw [hLb]; exact hb, by rw [hLs]; trivial, by rw [hLn]; trivial⟩
    have hself : (upd ρ s.h.next ⟨wj.heap.size, 0, 1⟩) s.h.next = some ⟨wj.heap.size, 0, 1⟩ := upd_self _ _ _
    have hargs : VRs (upd ρ s.h.next ⟨wj.heap.size, 0, 1⟩) (first ++ [.fn (.yield s.h.next) [] []] ++ captured) (a1 ++ #[Value.func (.yield wj.heap.size) #[] #[]] ++ b1).toList := by
      simp only [Array.toList_append]
      exact ((h1.mono hx).append (.cons (.yld (p := ⟨wj.heap.size, 0, 1⟩) hself) .nil)).append (h2'.mono hx)
    have hent := hc.enter g _ rv _ h2 hcall ⟨s.h.next, by simp⟩ (a1 ++ #[Value.func (.yield wj.heap.size) #[] #[]] ++ b1) (wj.alloc (.loop L))
    have hup := hc.fn g _ rv _ h2 hcall _ B (wj.alloc (.loop L)) _ st1.sim hargs
    rw [hent] at hup
    refine ⟨{ target := .fn (.func g) b1, args := a1 ++ #[Value.func (.yield wj.heap.size) #[] #[]] }, _, g, _, _, by
      have hcst : ∀ v, a.eval (.const v) = v := fun _ => rfl
      simp [resolve, hvf, Deferred.ofValue, hcst]; rfl, by show (callFunc g _).run P _ = _; exact hent, ?_⟩
    have hup' : CallsIn (FF ro) 0 P g _ _ _ := hup
    refine CallsIn.mono hup' fun e w₃ he' => ?_
    obtain ⟨v, rfl, ρ2, hvr, st2⟩ := he'
    have hp2 := st2.ext _ _ hself
    unfold endRange at he
    split at he <;> first | (cases he; done) | skip
    rename_i fn tm' ps' a' b' st pend hget
    split at he <;> first | (cases he; done) | skip
    rename_i hst
    obtain ⟨L2, k1, k2, k3, k4, k5, k6, k7⟩ := loopOf st2.sim hget hp2
    have hbusy : L2.state ≠ .busy := by
      intro e
      rw [e] at k6
      rcases st with _ | _ | _ | _ | st <;> first | exact hst rfl | cases k6
    have hend := run_endLoop (P := P) (w := w₃) (l := wj.heap.size) k1 hbusy
    have st3 : ∀ pd, pendR pd L2.pending → Stp P B ρ s.h w ρ2 (h2.set s.h.next (.loop fn tm' ps' a' b' 3 pd)) (putRowW w₃ wj.heap.size (.loop { L2 with state := .exhausted })) := fun pd hpd =>
      hj.trans (st1.trans (st2.trans (Sim.setLoop (L' := { L2 with state := .exhausted }) (st' := 3) st2.sim hget hp2 k1 k2 k3 k4 k5 trivial hpd fn)))
    have hD : ∀ pd, pendR pd L2.pending → DOK W (putRowW w₃ wj.heap.size (.loop { L2 with state := .exhausted })) (mark ++ a.defers) := fun pd hpd =>
      hd.stp hsj (st1.trans (st2.trans (Sim.setLoop (L' := { L2 with state := .exhausted }) (st' := 3) st2.sim hget hp2 k1 k2 k3 k4 k5 trivial hpd fn)))
    refine ⟨L2.pending, _, hend, ?_⟩
    rw [putObj_eq]
    generalize putRowW w₃ wj.heap.size (.loop { L2 with state := .exhausted }) = w4 at st3 hD ⊢
    split at he
    · cases he
      have hpn : L2.pending = none := by
        revert k7; cases L2.pending <;> intro k7 <;> first | rfl | cases k7
      rw [hpn]
      exact hq ρ2 _ _ (ht.mono ((st3 none k7).ext)) (st3 none k7) (hD none k7)
    · cases he
      have hpn : L2.pending = some .ret := by
        revert k7; cases L2.pending with
        | none => intro k7; cases k7
        | some c => cases c <;> intro k7 <;> first | rfl | cases k7
      rw [hpn]
      exact wpIn_ret (hq ρ2 { a with defers := mark ++ a.defers } _ (ht.mono ((st3 _ k7).ext)) (st3 _ k7) (hD _ k7))
    · rename_i id
      cases he
      have hpn : L2.pending = some (.exit id) := by
        revert k7; cases L2.pending with
        | none => intro k7; cases k7
        | some c => cases c <;> intro k7 <;> first | (have : id = _ := k7; rw [this]; done) | cases k7
      rw [hpn]
      exact wpIn_exit (hq ρ2 { a with defers := mark ++ a.defers } _ (ht.mono ((st3 _ k7).ext)) (st3 _ k7) (hD _ k7))

theorem range_sound (hc : CallOK P call) {f : Operand} {af : AOpd} {ps : Array Tmp} {assign body : Code} {aa ab : ACode} (hf : trOpd f = some af) (ha : tr P assign = some aa) (hb : tr P body = some ab) {s s' : St} {x : AX} {fuel : Nat}
    (he : exec (.rangeFunc af ps.toList aa ab) call fuel s = some (x, s')) (hs : Sim P ρ s.h B w) (ht : TR ρ s.tm a.tmps) (hW : W ≤ w.heap.size) (hd : DOK W w a.defers) {ro : Option Nat} (hi : InR ro w) {Q : Exit → Act → World → Prop} (hq : Post P B W ρ s.h w x s' Q) :
    (Code.rangeFunc f ps assign body).wpIn (FF ro) 0 P Q a w := by
  refine wpIn_rangeFunc fun fn _ => ?_
  cases ro with
  | none =>
    obtain ⟨d, w₁', g, args, w₂, q1, q2, q3⟩ := range_core (ro := none) hc hf ha hb he hs ht hq (Stp.junk hs (.deferred (some []))) (hd.push hW)
      (L := { state := .ready, pending := none, fn, tmps := a.tmps, params := ps, assign, body, defers := w.heap.size }) rfl rfl rfl rfl rfl rfl
    refine ⟨w.heap.size + 1, [{ target := .collected w.heap.size, args := #[] }], _, d, w₁', g, args, w₂, run_enterLoop_outer fn a.tmps ps assign body, ?_, fun _ _ => trivial, q2, fun h => by simp [FF, Fence.wide] at h, ?_⟩
    · simpa using q1
    · simpa using q3
  | some l0 =>
    obtain ⟨r0, hr0⟩ := hi l0 rfl
    obtain ⟨d, w₁', g, args, w₂, q1, q2, q3⟩ := range_core (ro := some l0) hc hf ha hb he hs ht hq (Stp.refl hs) (mark := []) (by simpa using hd)
      (L := { state := .ready, pending := none, fn, tmps := a.tmps, params := ps, assign, body, defers := r0.defers }) rfl rfl rfl rfl rfl rfl
    exact ⟨w.heap.size, [], _, d, w₁', g, args, w₂, run_enterLoop_inner hr0 fn a.tmps ps assign body, q1, fun _ _ => trivial, q2, fun h => by simp [FF, Fence.wide] at h, q3⟩

/-- THE CODE. -/
theorem exec_sound (hm : P.follows .mixedOrders = true) (hc : CallOK P call) : ∀ (c : Code) (ac : ACode), tr P c = some ac → ∀ (fuel : Nat) (s : St) (x : AX) (s' : St), exec ac call fuel s = some (x, s') →
    ∀ {ρ : Rho} {B W : Nat} {w : World} {a : Act} {ro : Option Nat} {Q : Exit → Act → World → Prop}, Sim P ρ s.h B w → TR ρ s.tm a.tmps → W ≤ w.heap.size → DOK W w a.defers → InR ro w → Post P B W ρ s.h w x s' Q → c.wpIn (FF ro) 0 P Q a w := by
  intro c
  induction c with
  | skip =>
    intro ac htr fuel s x s' he ρ B W w a ro Q hs ht hW hd hi hq
    simp only [tr, Option.some.injEq] at htr; subst htr
    rw [exec_skip] at he; cases he
    exact wpIn_skip (hq ρ a w ht (Stp.refl hs) hd)
  | label l =>
    intro ac htr fuel s x s' he ρ B W w a ro Q hs ht hW hd hi hq
    simp only [tr, Option.some.injEq] at htr; subst htr
    rw [exec_skip] at he; cases he
    exact wpIn_label (hq ρ a w ht (Stp.refl hs) hd)
  | goto l => intro ac htr; simp only [tr] at htr; cases htr
  | refuse r => intro ac htr; simp only [tr] at htr; cases htr
  | ret =>
    intro ac htr fuel s x s' he ρ B W w a ro Q hs ht hW hd hi hq
    simp only [tr, Option.some.injEq] at htr; subst htr
    rw [exec_ret] at he; cases he
    exact wpIn_ret (hq ρ a w ht (Stp.refl hs) hd)
  | exit id =>
    intro ac htr fuel s x s' he ρ B W w a ro Q hs ht hW hd hi hq
    simp only [tr, Option.some.injEq] at htr; subst htr
    rw [exec_exit] at he; cases he
    exact wpIn_exit (hq ρ a w ht (Stp.refl hs) hd)
  | region id ops dr =>
    intro ac htr fuel s x s' he ρ B W w a ro Q hs ht hW hd hi hq
    cases dr with
    | false =>
      simp only [tr] at htr
      split at htr <;> cases htr
      rename_i l hl
      rw [exec_ops] at he
      split at he <;> cases he
      rename_i hr
      obtain ⟨u1, u2⟩ := trOpers_get hl
      refine wpIn_region ?_
      rw [List.range_eq_range']
      exact ops_sound hc ops.size 0 l (by omega) (by simpa using u1) (fun k o _ ho => u2 k o (by simpa using ho)) hs ht hr fun ρ' a' w' h1 h2 h3 => hq ρ' a' w' h2 h3 (by rw [h1]; exact hd.stp hs h3)
    | true =>
      simp only [tr] at htr
      split at htr <;> cases htr
      rename_i L hL
      rw [exec_draw] at he
      split at he <;> cases he
      rename_i hr
      refine wpIn_region_any hm ?_
      exact draw_sound hL hc (hs.drew _) ht hr fun ρ' a' w' h1 h2 h3 => hq ρ' a' w' h2 h3.ofDrew (by rw [h1]; exact hd.stp hs h3.ofDrew)
  | seq p q ihp ihq =>
    intro ac htr fuel s x s' he ρ B W w a ro Q hs ht hW hd hi hq
    simp only [tr] at htr
    split at htr <;> cases htr
    rename_i ap aq h1 h2
    rw [exec_seq] at he
    refine wpIn_seq ?_
    split at he
    · rename_i s1 hp
      refine ihp ap h1 fuel s _ s1 hp hs ht hW hd hi fun ρ1 a1 w1 ht1 st1 hd1 => ?_
      refine ihq aq h2 fuel s1 x s' he st1.sim ht1 (Nat.le_trans hW st1.size) hd1 (hi.stp st1) fun ρ2 a2 w2 ht2 st2 hd2 => ?_
      exact hq ρ2 a2 w2 ht2 (st1.trans st2) hd2
    · rename_i hne
      refine ihp ap h1 fuel s x s' he hs ht hW hd hi fun ρ1 a1 w1 ht1 st1 hd1 => ?_
      have := hq ρ1 a1 w1 ht1 st1 hd1
      cases x with
      | normal => exact absurd he (hne s')
      | exit id => exact this
      | ret => exact this
  | cond co p q ihp ihq =>
    intro ac htr fuel s x s' he ρ B W w a ro Q hs ht hW hd hi hq
    simp only [tr] at htr
    split at htr <;> cases htr
    rename_i aco ap aq h0 h1 h2
    rw [exec_cond] at he
    have hv := opd_sound ht h0
    split at he <;> first | (cases he; done) | skip
    rename_i t heq
    rw [heq] at hv
    generalize hvv : a.eval co = v at hv
    cases hv
    refine wpIn_cond hvv ?_
    cases t with
    | true => exact ihp ap h1 fuel s x s' he hs ht hW hd hi hq
    | false => exact ihq aq h2 fuel s x s' he hs ht hW hd hi hq
  | block id p ih =>
    intro ac htr fuel s x s' he ρ B W w a ro Q hs ht hW hd hi hq
    simp only [tr] at htr
    split at htr <;> cases htr
    rename_i ap h1
    rw [exec_block] at he
    refine wpIn_block ?_
    cases hp : exec ap call fuel s with
    | none => rw [hp] at he; cases he
    | some r =>
      obtain ⟨x1, s1⟩ := r
      rw [hp] at he
      refine ih ap h1 fuel s x1 s1 hp hs ht hW hd hi fun ρ1 a1 w1 ht1 st1 hd1 => ?_
      cases x1 with
      | normal => cases he; exact hq ρ1 a1 w1 ht1 st1 hd1
      | ret => cases he; exact hq ρ1 a1 w1 ht1 st1 hd1
      | exit id' =>
        simp only [blockX] at he
        show (if id' = id then Q .normal a1 w1 else Q (.exit id') a1 w1)
        split at he
        · rename_i e
          cases he
          rw [if_pos e]; exact hq ρ1 a1 w1 ht1 st1 hd1
        · rename_i e
          cases he
          rw [if_neg e]; exact hq ρ1 a1 w1 ht1 st1 hd1
  | loop p ih =>
    intro ac htr fuel s x s' he ρ B W w a ro Q hs ht hW hd hi hq
    simp only [tr] at htr
    split at htr <;> cases htr
    rename_i ap h1
    rw [exec_loop] at he
    refine wpIn_loop_n (fun j a1 w1 => ∃ ρ1 s1, Stp P B ρ s.h w ρ1 s1.h w1 ∧ TR ρ1 s1.tm a1.tmps ∧ DOK W w1 a1.defers ∧ iter j (exec ap call fuel) s1 = some (x, s')) (j := fuel) ⟨ρ, s, Stp.refl hs, ht, hd, he⟩ ?_
    intro j a1 w1 hR
    obtain ⟨ρ1, s1, st1, ht1, hd1, he1⟩ := hR
    cases j with
    | zero => rw [iter_zero] at he1; cases he1
    | succ j =>
      rw [iter_succ] at he1
      split at he1
      · rename_i s2 hp
        refine ih ap h1 fuel s1 _ s2 hp st1.sim ht1 (Nat.le_trans hW st1.size) hd1 (hi.stp st1) fun ρ2 a2 w2 ht2 st2 hd2 => ?_
        exact ⟨j, Nat.lt_succ_self j, ρ2, s2, st1.trans st2, ht2, hd2, he1⟩
      · rename_i hne
        refine ih ap h1 fuel s1 x s' he1 st1.sim ht1 (Nat.le_trans hW st1.size) hd1 (hi.stp st1) fun ρ2 a2 w2 ht2 st2 hd2 => ?_
        have := hq ρ2 a2 w2 ht2 (st1.trans st2) hd2
        cases x with
        | normal => exact absurd he1 (hne s')
        | exit id => exact this
        | ret => exact this
  | rangeFunc f ps p q ihp ihq =>
    intro ac htr fuel s x s' he ρ B W w a ro Q hs ht hW hd hi hq
    simp only [tr] at htr
    split at htr <;> cases htr
    rename_i af ap aq h0 h1 h2
    exact range_sound hc h0 h1 h2 he hs ht hW hd hi hq
  | scope p ih =>
    intro ac htr fuel s x s' he ρ B W w a ro Q hs ht hW hd hi hq
    simp only [tr] at htr
    split at htr <;> cases htr
    rename_i ap h1
    rw [exec_scope] at he
    refine wpIn_scope ?_
    refine ih ap h1 fuel s x s' he hs ht hW hd hi fun ρ1 a1 w1 ht1 st1 hd1 => ?_
    have := hq ρ1 a1 w1 ht1 st1 hd1
    cases x <;> exact this

end
end Go.AM
