/- The rules of the calculus that were lacking; junk in the world; the marks of ranges over functions. No condition. -/
import Derived.Test.YtemmnocgkgoegaaAm19
import Derived.Scope
import Derived.RangeFuncLeaves
import Derived.RangeFuncRecord
import Derived.RangeFuncNested
namespace Go.AM
open Go

section
variable {F : Fence} {n : Nat} {P : Program} {Q : Exit → Act → World → Prop} {a : Act} {w : World}

theorem stepR_scope' {b : Frame} {k : List Item} {cs : List Frame} {c : Code} : step P (lone (b.atR a (.code (.scope c) :: k)) cs w) = .next (lone (b.atR a (.code c :: .inScope c :: k)) cs w) :=
  step_lone_go (by simp [stepG, stepG.exec, Frame.atR])
theorem stepR_inScope' {b : Frame} {k : List Item} {cs : List Frame} {c : Code} : step P (lone (b.atR a (.inScope c :: k)) cs w) = .next (lone (b.atR a k) cs w) :=
  step_lone_go (by simp [stepG, stepG.exec, Frame.atR])

theorem wpIn_scope {c : Code} (h : c.wpIn F n P (Exit.noGoto Q) a w) : (Code.scope c).wpIn F n P Q a w := by
  intro b k cs hro hb hr
  have h0 : (lone (b.atR a (.code (.scope c) :: k)) cs w).fenced P F := fenced_calm hb hr rfl
  obtain ⟨e, a₁, w₁, hq, harr⟩ := h b (.inScope c :: k) cs hro hb hr
  cases e with
  | normal => exact ⟨.normal, a₁, w₁, hq, .head h0 stepR_scope' (StepsIn.trans harr (.one (fenced_calm hb hr rfl) stepR_inScope'))⟩
  | exit id =>
    have hx : exitTo id (.inScope c :: k) = exitTo id k := by simp [exitTo]
    exact ⟨.exit id, a₁, w₁, hq, fun k' hk => .head h0 stepR_scope' (harr.1 k' (by rw [hx]; exact hk)),
      fun hr' hk => let ⟨k₁, h1, h2⟩ := harr.2 hr' (by rw [hx]; exact hk); ⟨k₁, h1, .head h0 stepR_scope' h2⟩⟩
  | goto l => exact hq.elim
  | ret => exact ⟨_, a₁, w₁, hq, .of_steps (.one h0 stepR_scope') harr⟩
  | panic ch => exact ⟨_, a₁, w₁, hq, .of_steps (.one h0 stepR_scope') harr⟩
  | outgrown => exact ⟨_, a₁, w₁, hq, .of_steps (.one h0 stepR_scope') harr⟩

/-- a loop, its rounds counted -/
theorem wpIn_loop_n {c : Code} (R : Nat → Act → World → Prop) {j : Nat} (h₀ : R j a w)
    (round : ∀ j a w, R j a w → c.wpIn F n P (Exit.then (fun a' w' => ∃ i, i < j ∧ R i a' w') Q) a w) : (Code.loop c).wpIn F n P Q a w := by
  intro b k cs hro hb hr
  have key : ∀ j a w, R j a w → ∃ e a' w', Q e a' w' ∧ ArrivesIn (Machine.fenced P F) P (lone (b.atR a (.code c :: .inLoop c :: k)) cs w) b k cs e a' w' := by
    intro j
    induction j using Nat.strongRecOn with
    | _ j ih =>
      intro a w hI
      obtain ⟨e, a₁, w₁, hq, harr⟩ := round j a w hI b (.inLoop c :: k) cs hro hb hr
      cases e with
      | normal =>
        obtain ⟨i, hlt, hI₁⟩ := hq
        obtain ⟨e₂, a₂, w₂, hq₂, harr₂⟩ := ih i hlt a₁ w₁ hI₁
        exact ⟨e₂, a₂, w₂, hq₂, .of_steps (StepsIn.trans harr (.one (fenced_calm hb hr rfl) stepR_inLoop)) harr₂⟩
      | exit id => exact ⟨_, a₁, w₁, hq, .pass (x := .inLoop c) rfl (fun _ _ => .inl (by simp)) harr⟩
      | goto l => exact ⟨_, a₁, w₁, hq, .pass (x := .inLoop c) rfl (fun _ _ => .inl (by simp)) harr⟩
      | ret => exact ⟨_, a₁, w₁, hq, .pass (x := .inLoop c) rfl (fun _ _ => .inl (by simp)) harr⟩
      | panic ch => exact ⟨_, a₁, w₁, hq, .pass (x := .inLoop c) rfl (fun _ _ => .inl (by simp)) harr⟩
      | outgrown => exact ⟨_, a₁, w₁, hq, .pass (x := .inLoop c) rfl (fun _ _ => .inl (by simp)) harr⟩
  obtain ⟨e, a', w', hq, harr⟩ := key _ a w h₀
  exact ⟨e, a', w', hq, .of_steps (.one (fenced_calm hb hr rfl) stepR_loop) harr⟩
end

section
variable {P : Program} {B : Nat} {ρ : Rho} {h : AHeap} {w : World}

/-- a block that the machine does not know of -/
theorem Stp.junk (hs : Sim P ρ h B w) (b : Obj) : Stp P B ρ h w ρ h (w.alloc b) := by
  have hold : ∀ k, k < w.heap.size → (w.alloc b).heap[k]? = w.heap[k]? := fun k hk => RowKit.Below.heap_alloc w b k hk
  refine ⟨Ext.refl _, ⟨?_, hs.dom, fun i o p h1 h2 => (hs.obj i o p h1 h2).same (hold _ (hs.obj i o p h1 h2).lt), hs.sep, hs.tidy⟩, rfl, rfl, rfl, by simp, fun k hk _ => hold k hk,
    fun i o p h1 h2 h3 => .inr ⟨i, o, p, h1, h2, h3, rfl⟩, Nat.le_refl _, fun _ _ h => .inl h, fun k L h => ⟨L, by rw [hold k (Array.getElem?_eq_some_iff.1 h).1]; exact h⟩⟩
  have := hs.low; simp; omega

/-- a block that holds deferred calls is none of the machine's -/
theorem Sim.notDeferred (hs : Sim P ρ h B w) {r : Nat} {x : Option (List Deferred)} (hr : w.heap[r]? = some (.deferred x)) : ∀ i o p, h.get i = some o → ρ i = some p → p.blk ≠ r := by
  intro i o p h1 h2 e
  have := hs.obj i o p h1 h2
  subst e
  cases o with
  | cells c rw => obtain ⟨cc, el, fr, k1, _⟩ := this; rw [hr] at k1; cases k1
  | map es => obtain ⟨_, _, _, ms, ck, k1, _⟩ := this; rw [hr] at k1; cases k1
  | loop fn tm ps a b st pend => obtain ⟨_, _, _, L, k1, _⟩ := this; rw [hr] at k1; cases k1

theorem Stp.deferred {ρ' : Rho} {h' : AHeap} {w' : World} (s : Stp P B ρ h w ρ' h' w') (hs : Sim P ρ h B w) {r : Nat} {x : Option (List Deferred)} (hr : w.heap[r]? = some (.deferred x)) : w'.heap[r]? = some (.deferred x) := by
  rw [s.frame r (Array.getElem?_eq_some_iff.1 hr).1 fun i o p h1 h2 _ => hs.notDeferred hr i o p h1 h2]; exact hr

/-- a mark's block is shut -/
theorem Stp.shut {ρ0 : Rho} {h0 : AHeap} {w0 : World} (s : Stp P B ρ0 h0 w0 ρ h w) {r : Nat} {x : Option (List Deferred)} (hr : w.heap[r]? = some (.deferred x)) (hnew : w0.heap.size ≤ r) (b : Obj) :
    Stp P B ρ0 h0 w0 ρ h (putRowW w r b) := by
  have hnd := s.sim.notDeferred hr
  refine ⟨s.ext, ⟨by have := s.sim.low; simpa using this, s.sim.dom, fun i o p h1 h2 => (s.sim.obj i o p h1 h2).same (putRowW_other (hnd i o p h1 h2)), s.sim.sep, s.sim.tidy⟩, s.os, s.tape, s.output, by have := s.size; simpa using this, ?_, s.orig, s.next, s.fresh, ?_⟩
  · intro k hk hoff
    rw [putRowW_other (by omega)]; exact s.frame k hk hoff
  · intro k L hL
    have hk : k < w0.heap.size := (Array.getElem?_eq_some_iff.1 hL).1
    obtain ⟨L', h'⟩ := s.loops k L hL
    exact ⟨L', by rw [putRowW_other (by omega)]; exact h'⟩

/-- the deferred calls of an activation: marks alone, each of a block of its own from W on -/
structure DOK (W : Nat) (w : World) (ds : List Deferred) : Prop where
  ex : ∃ rs : List Nat, ds = rs.map (fun r => { target := .collected r, args := #[] }) ∧ rs.Nodup ∧ ∀ r ∈ rs, W ≤ r ∧ w.heap[r]? = some (.deferred (some []))
theorem DOK.nil (W : Nat) (w : World) : DOK W w [] := ⟨[], rfl, List.nodup_nil, fun r hr => by cases hr⟩
theorem DOK.stp {ρ' : Rho} {h' : AHeap} {w' : World} {W : Nat} {ds : List Deferred} (d : DOK W w ds) (hs : Sim P ρ h B w) (s : Stp P B ρ h w ρ' h' w') : DOK W w' ds := by
  obtain ⟨rs, h1, h2, h3⟩ := d.ex
  exact ⟨rs, h1, h2, fun r hr => ⟨(h3 r hr).1, s.deferred hs (h3 r hr).2⟩⟩
theorem DOK.same {W : Nat} {ds : List Deferred} (d : DOK W w ds) {w' : World} (h : w'.heap = w.heap) : DOK W w' ds := by
  obtain ⟨rs, h1, h2, h3⟩ := d.ex
  exact ⟨rs, h1, h2, fun r hr => ⟨(h3 r hr).1, by rw [h]; exact (h3 r hr).2⟩⟩
theorem DOK.push {W : Nat} {ds : List Deferred} (d : DOK W w ds) (hW : W ≤ w.heap.size) : DOK W (w.alloc (.deferred (some []))) ([{ target := .collected w.heap.size, args := #[] }] ++ ds) := by
  obtain ⟨rs, h1, h2, h3⟩ := d.ex
  have hlt : ∀ r ∈ rs, r < w.heap.size := fun r hr => (Array.getElem?_eq_some_iff.1 (h3 r hr).2).1
  refine ⟨w.heap.size :: rs, by rw [h1]; rfl, ?_, fun r hr => ?_⟩
  · rw [List.nodup_cons]; exact ⟨fun hm => by have := hlt _ hm; omega, h2⟩
  · rcases List.mem_cons.1 hr with rfl | hr
    · exact ⟨hW, by show (w.heap.push _)[w.heap.size]? = _; simp⟩
    · exact ⟨(h3 r hr).1, by rw [RowKit.Below.heap_alloc w _ r (hlt r hr)]; exact (h3 r hr).2⟩

/-- on the way out -/
theorem leaves_marks {ρ0 : Rho} {h0 : AHeap} {w0 : World} {fn : Func} {tmps : Array Value} {R : Ending → World → Prop} : ∀ (rs : List Nat) (w : World), Stp P B ρ0 h0 w0 ρ h w → rs.Nodup → (∀ r ∈ rs, w0.heap.size ≤ r ∧ w.heap[r]? = some (.deferred (some []))) →
    (∀ w', Stp P B ρ0 h0 w0 ρ h w' → ∃ v, (results fn tmps).run P w' = .ok v w' ∧ R (.returned v) w') → LeavesInM Fence.wide 0 P fn tmps R (rs.map fun r => { target := .collected r, args := #[] }) .returning w
  | [], w, s, _, _, hR => by
    obtain ⟨v, h1, h2⟩ := hR w s
    exact ⟨v, h1, h2⟩
  | r :: rs, w, s, hnd, hr, hR => by
    rw [List.nodup_cons] at hnd
    obtain ⟨h1, h2⟩ := hr r (List.mem_cons_self ..)
    refine ⟨(by intro e; cases e), Or.inl ⟨r, _, rfl, run_takeDeferred h2, ?_⟩⟩
    refine leaves_marks rs _ (s.shut h2 h1 _) hnd.2 (fun q hq => ?_) hR
    have hne : q ≠ r := fun e => hnd.1 (e ▸ hq)
    obtain ⟨h3, h4⟩ := hr q (List.mem_cons_of_mem _ hq)
    exact ⟨h3, by show (putRowW w r _).heap[q]? = _; rw [putRowW_other hne]; exact h4⟩

end
end Go.AM
