/- More fuel, the same answer; the limit of all runs. No condition. -/
import Derived.Test.YtemmnocgkgoegaaAm25
namespace Go.AM
open Go

def Le (c1 c2 : CallT) : Prop := ∀ f a h r, c1 f a h = some r → c2 f a h = some r

theorem evalE_le {c1 c2 : CallT} (hl : Le c1 c2) {op : AOp} {tm : List AV} {h : AHeap} {r : AV × AHeap} (e : evalE op c1 tm h = some r) : evalE op c2 tm h = some r := by
  cases op <;> first | exact e | skip
  simp only [evalE] at e ⊢
  split at e
  · exact hl _ _ _ _ e
  · split at e
    · exact hl _ _ _ _ e
    · cases e
  · cases e

theorem step1_le {c1 c2 : CallT} (hl : Le c1 c2) {o : AOper} {s s' : St} (e : step1 o c1 s = some s') : step1 o c2 s = some s' := by
  cases hc : o.op.cls with
  | q => rw [step1_q hc] at e ⊢; exact e
  | a => rw [step1_a hc] at e ⊢; exact e
  | e =>
    rw [step1_e hc] at e ⊢
    cases hv : evalE o.op c1 s.tm s.h with
    | none => rw [hv] at e; cases e
    | some p => rw [hv] at e; rw [evalE_le hl hv]; exact e

theorem runOps_le {c1 c2 : CallT} (hl : Le c1 c2) : ∀ (l : List AOper) {s s' : St}, runOps l c1 s = some s' → runOps l c2 s = some s'
  | [], _, _, e => e
  | o :: r, s, s', e => by
    rw [runOps_cons] at e ⊢
    split at e
    · rename_i hw
      rw [if_pos hw]
      cases hv : step1 o c1 s with
      | none => rw [hv] at e; cases e
      | some s1 => rw [hv] at e; rw [step1_le hl hv]; exact runOps_le hl r e
    · rename_i hw
      rw [if_neg hw]; exact runOps_le hl r e

theorem runDraw_le {c1 c2 : CallT} (hl : Le c1 c2) : ∀ (l : List (AOper × Nat)) {s s' : St} {ps : List ((AHeap → Bool) × Nat)}, runDraw l c1 s ps = some s' → runDraw l c2 s ps = some s'
  | [], _, _, _, e => e
  | (o, n) :: r, s, s', ps, e => by
    rw [runDraw_cons] at e ⊢
    split at e
    · rename_i hw
      rw [if_pos hw]
      cases hv : step1 o c1 s with
      | none => rw [hv] at e; cases e
      | some s1 =>
        rw [hv] at e; rw [step1_le hl hv]
        dsimp only at e ⊢
        cases hc : o.op.cls with
        | e =>
          simp only [hc] at e ⊢
          cases hb : checks ps s1.h with
          | false => rw [hb] at e; cases e
          | true => rw [hb] at e; exact runDraw_le hl r e
        | q => simp only [hc] at e ⊢; cases n <;> exact runDraw_le hl r e
        | a => simp only [hc] at e ⊢; cases n <;> exact runDraw_le hl r e
    · rename_i hw
      rw [if_neg hw]; exact runDraw_le hl r e

theorem iter_le {f g : St → XR} (hf : ∀ s r, f s = some r → g s = some r) : ∀ {k m : Nat} {s : St} {r : AX × St}, k ≤ m → iter k f s = some r → iter m g s = some r
  | 0, _, _, _, _, e => by cases e
  | k + 1, 0, _, _, h, _ => by omega
  | k + 1, m + 1, s, r, h, e => by
    rw [iter_succ] at e ⊢
    cases hv : f s with
    | none => rw [hv] at e; cases e
    | some p =>
      rw [hv] at e; rw [hf _ _ hv]
      obtain ⟨x, s1⟩ := p
      cases x with
      | normal => exact iter_le hf (by omega) e
      | _ => exact e

theorem exec_le {c1 c2 : CallT} (hl : Le c1 c2) {k m : Nat} (hk : k ≤ m) : ∀ (c : ACode) {s : St} {r : AX × St}, exec c c1 k s = some r → exec c c2 m s = some r
  | .skip, _, _, e => e
  | .ops l, s, r, e => by
    rw [exec_ops] at e ⊢
    cases hv : runOps l c1 s with
    | none => rw [hv] at e; cases e
    | some p => rw [hv] at e; rw [runOps_le hl l hv]; exact e
  | .draw l, s, r, e => by
    rw [exec_draw] at e ⊢
    cases hv : runDraw l c1 s [] with
    | none => rw [hv] at e; cases e
    | some p => rw [hv] at e; rw [runDraw_le hl l hv]; exact e
  | .seq a b, s, r, e => by
    rw [exec_seq] at e ⊢
    cases hv : exec a c1 k s with
    | none => rw [hv] at e; cases e
    | some p =>
      rw [hv] at e; rw [exec_le hl hk a hv]
      obtain ⟨x, s1⟩ := p
      cases x with
      | normal => exact exec_le hl hk b e
      | _ => exact e
  | .cond c a b, s, r, e => by
    rw [exec_cond] at e ⊢
    split at e
    · rename_i t hc
      split at e
      · rename_i ht; rw [if_pos ht]; exact exec_le hl hk a e
      · rename_i ht; rw [if_neg ht]; exact exec_le hl hk b e
    · cases e
  | .block id b, s, r, e => by
    rw [exec_block] at e ⊢
    cases hv : exec b c1 k s with
    | none => rw [hv] at e; cases e
    | some p => rw [hv] at e; rw [exec_le hl hk b hv]; exact e
  | .loop b, s, r, e => by
    rw [exec_loop] at e ⊢
    exact iter_le (fun s r he => exec_le hl hk b he) hk e
  | .rangeFunc f ps a b, s, r, e => by
    rw [exec_range] at e ⊢
    split at e
    · rename_i g first captured hf
      split at e
      · rename_i v h2 hv
        rw [hl _ _ _ _ hv]; exact e
      · cases e
    · cases e
  | .exit id, _, _, e => e
  | .scope b, s, r, e => by
    rw [exec_scope] at e ⊢; exact exec_le hl hk b e
  | .ret, _, _, e => e

theorem finish_le {rs : List ARes} {x y : XR} {r : AV × AHeap} (h : ∀ p, x = some p → y = some p) (e : finish rs x = some r) : finish rs y = some r := by
  cases x with
  | none => cases e
  | some p => rw [h p rfl]; exact e
theorem endRound_le {l : Nat} {x y : XR} {r : AV × AHeap} (h : ∀ p, x = some p → y = some p) (e : endRound l x = some r) : endRound l y = some r := by
  cases x with
  | none => cases e
  | some p => rw [h p rfl]; exact e

theorem callF_le {T : FnTab} {I : Oracle} : ∀ {n m : Nat}, n ≤ m → Le (callF T I n) (callF T I m)
  | 0, _, _ => fun _ _ _ _ e => by cases e
  | n + 1, 0, h => by omega
  | n + 1, m + 1, h => fun c a hp r e => by
    have ih : Le (callF T I n) (callF T I m) := callF_le (by omega)
    cases c with
    | fn f =>
      rw [callF_fn] at e ⊢
      cases hi : I f a hp with
      | some r' => rw [hi] at e; exact e
      | none =>
        rw [hi] at e
        dsimp only at e ⊢
        cases hT : T f with
        | none => rw [hT] at e; cases e
        | some fn =>
          rw [hT] at e
          exact finish_le (fun p hp => exec_le ih (by omega) _ hp) e
    | yield l =>
      rw [callF_yield] at e ⊢
      split at e
      · rename_i tm ps ca cb pend hg
        split at e
        · rename_i hlen
          rw [if_pos hlen]
          split at e
          · rename_i s1 hv
            rw [exec_le ih (by omega) _ hv]
            dsimp only at e ⊢
            split at e
            · exact endRound_le (fun p hp => exec_le ih (by omega) _ hp) e
            · cases e
          · cases e
        · cases e
      · cases e

/-- the limit of all runs -/
noncomputable def lim (T : FnTab) (I : Oracle) : CallT := fun c a h => open Classical in if e : ∃ r, ∃ n, callF T I n c a h = some r then some (Classical.choose e) else none
theorem lim_iff {T : FnTab} {I : Oracle} {c : Callee} {a : List AV} {h : AHeap} {r : AV × AHeap} : lim T I c a h = some r ↔ ∃ n, callF T I n c a h = some r := by
  unfold lim
  constructor
  · intro e
    split at e
    · rename_i hx
      obtain ⟨n, hn⟩ := Classical.choose_spec hx
      cases e
      exact ⟨n, hn⟩
    · cases e
  · rintro ⟨n, hn⟩
    have hx : ∃ r, ∃ n, callF T I n c a h = some r := ⟨r, n, hn⟩
    rw [dif_pos hx]
    obtain ⟨m, hm⟩ := Classical.choose_spec hx
    have h1 := callF_le (Nat.le_max_left n m) _ _ _ _ hn
    have h2 := callF_le (Nat.le_max_right n m) _ _ _ _ hm
    rw [h1] at h2
    exact h2.symm

section
variable {T : FnTab} {I : Oracle}
theorem evalE_lim {op : AOp} {tm : List AV} {h : AHeap} {r : AV × AHeap} (e : evalE op (lim T I) tm h = some r) : ∃ n, evalE op (callF T I n) tm h = some r := by
  cases op <;> first | exact ⟨0, e⟩ | skip
  simp only [evalE] at e ⊢
  split at e
  · exact lim_iff.1 e
  · split at e
    · exact lim_iff.1 e
    · cases e
  · cases e
theorem step1_lim {o : AOper} {s s' : St} (e : step1 o (lim T I) s = some s') : ∃ n, step1 o (callF T I n) s = some s' := by
  cases hc : o.op.cls with
  | q => rw [step1_q hc] at e; refine ⟨0, ?_⟩; rw [step1_q hc]; exact e
  | a => rw [step1_a hc] at e; refine ⟨0, ?_⟩; rw [step1_a hc]; exact e
  | e =>
    rw [step1_e hc] at e
    cases hv : evalE o.op (lim T I) s.tm s.h with
    | none => rw [hv] at e; cases e
    | some p => rw [hv] at e; obtain ⟨n, hn⟩ := evalE_lim hv; refine ⟨n, ?_⟩; rw [step1_e hc, hn]; exact e
theorem runOps_lim : ∀ (l : List AOper) {s s' : St}, runOps l (lim T I) s = some s' → ∃ n, runOps l (callF T I n) s = some s'
  | [], _, _, e => ⟨0, e⟩
  | o :: r, s, s', e => by
    rw [runOps_cons] at e
    split at e
    · rename_i hw
      cases hv : step1 o (lim T I) s with
      | none => rw [hv] at e; cases e
      | some s1 =>
        rw [hv] at e
        obtain ⟨n1, h1⟩ := step1_lim hv
        obtain ⟨n2, h2⟩ := runOps_lim r e
        refine ⟨max n1 n2, ?_⟩
        rw [runOps_cons, if_pos hw, step1_le (callF_le (Nat.le_max_left n1 n2)) h1]
        exact runOps_le (callF_le (Nat.le_max_right n1 n2)) r h2
    · rename_i hw
      obtain ⟨n, hn⟩ := runOps_lim r e
      refine ⟨n, ?_⟩
      rw [runOps_cons, if_neg hw]; exact hn
theorem runDraw_lim : ∀ (l : List (AOper × Nat)) {s s' : St} {ps : List ((AHeap → Bool) × Nat)}, runDraw l (lim T I) s ps = some s' → ∃ n, runDraw l (callF T I n) s ps = some s'
  | [], _, _, _, e => ⟨0, e⟩
  | (o, m) :: r, s, s', ps, e => by
    rw [runDraw_cons] at e
    split at e
    · rename_i hw
      cases hv : step1 o (lim T I) s with
      | none => rw [hv] at e; cases e
      | some s1 =>
        rw [hv] at e
        obtain ⟨n1, h1⟩ := step1_lim hv
        have key : ∀ ps', runDraw r (lim T I) s1 ps' = some s' → ∃ n, step1 o (callF T I n) s = some s1 ∧ runDraw r (callF T I n) s1 ps' = some s' := by
          intro ps' e'
          obtain ⟨n2, h2⟩ := runDraw_lim r e'
          exact ⟨max n1 n2, step1_le (callF_le (Nat.le_max_left n1 n2)) h1, runDraw_le (callF_le (Nat.le_max_right n1 n2)) r h2⟩
        dsimp only at e
        cases hc : o.op.cls with
        | e =>
          simp only [hc] at e
          cases hb : checks ps s1.h with
          | false => rw [hb] at e; cases e
          | true =>
            rw [hb] at e
            obtain ⟨n, k1, k2⟩ := key _ e
            refine ⟨n, ?_⟩
            rw [runDraw_cons, if_pos hw, k1]; simp only [hc, hb]; exact k2
        | q =>
          simp only [hc] at e
          cases m <;> (obtain ⟨n, k1, k2⟩ := key _ e; refine ⟨n, ?_⟩; rw [runDraw_cons, if_pos hw, k1]; simp only [hc]; exact k2)
        | a =>
          simp only [hc] at e
          cases m <;> (obtain ⟨n, k1, k2⟩ := key _ e; refine ⟨n, ?_⟩; rw [runDraw_cons, if_pos hw, k1]; simp only [hc]; exact k2)
    · rename_i hw
      obtain ⟨n, hn⟩ := runDraw_lim r e
      refine ⟨n, ?_⟩
      rw [runDraw_cons, if_neg hw]; exact hn
theorem iter_lim {c : ACode} {j : Nat} (hf : ∀ s r, exec c (lim T I) j s = some r → ∃ n, exec c (callF T I n) j s = some r) : ∀ {k : Nat} {s : St} {r : AX × St}, iter k (exec c (lim T I) j) s = some r → ∃ n, iter k (exec c (callF T I n) j) s = some r
  | 0, _, _, e => by cases e
  | k + 1, s, r, e => by
    rw [iter_succ] at e
    cases hv : exec c (lim T I) j s with
    | none => rw [hv] at e; cases e
    | some p =>
      rw [hv] at e
      obtain ⟨n1, h1⟩ := hf _ _ hv
      obtain ⟨x, s1⟩ := p
      cases x with
      | normal =>
        obtain ⟨n2, h2⟩ := iter_lim hf e
        refine ⟨max n1 n2, ?_⟩
        rw [iter_succ, exec_le (callF_le (Nat.le_max_left n1 n2)) (Nat.le_refl j) c h1]
        exact iter_le (fun s r he => exec_le (callF_le (Nat.le_max_right n1 n2)) (Nat.le_refl j) c he) (Nat.le_refl _) h2
      | _ => refine ⟨n1, ?_⟩; rw [iter_succ, h1]; exact e
theorem exec_lim {k : Nat} : ∀ (c : ACode) {s : St} {r : AX × St}, exec c (lim T I) k s = some r → ∃ n, exec c (callF T I n) k s = some r
  | .skip, _, _, e => ⟨0, e⟩
  | .ops l, s, r, e => by
    rw [exec_ops] at e
    cases hv : runOps l (lim T I) s with
    | none => rw [hv] at e; cases e
    | some p => rw [hv] at e; obtain ⟨n, hn⟩ := runOps_lim l hv; refine ⟨n, ?_⟩; rw [exec_ops, hn]; exact e
  | .draw l, s, r, e => by
    rw [exec_draw] at e
    cases hv : runDraw l (lim T I) s [] with
    | none => rw [hv] at e; cases e
    | some p => rw [hv] at e; obtain ⟨n, hn⟩ := runDraw_lim l hv; refine ⟨n, ?_⟩; rw [exec_draw, hn]; exact e
  | .seq a b, s, r, e => by
    rw [exec_seq] at e
    cases hv : exec a (lim T I) k s with
    | none => rw [hv] at e; cases e
    | some p =>
      rw [hv] at e
      obtain ⟨n1, h1⟩ := exec_lim a hv
      obtain ⟨x, s1⟩ := p
      cases x with
      | normal =>
        obtain ⟨n2, h2⟩ := exec_lim b e
        refine ⟨max n1 n2, ?_⟩
        rw [exec_seq, exec_le (callF_le (Nat.le_max_left n1 n2)) (Nat.le_refl k) a h1]
        exact exec_le (callF_le (Nat.le_max_right n1 n2)) (Nat.le_refl k) b h2
      | _ => refine ⟨n1, ?_⟩; rw [exec_seq, h1]; exact e
  | .cond c a b, s, r, e => by
    rw [exec_cond] at e
    split at e
    · rename_i t hc
      split at e
      · rename_i ht
        obtain ⟨n, hn⟩ := exec_lim a e
        refine ⟨n, ?_⟩; rw [exec_cond, hc]; dsimp only; rw [if_pos ht]; exact hn
      · rename_i ht
        obtain ⟨n, hn⟩ := exec_lim b e
        refine ⟨n, ?_⟩; rw [exec_cond, hc]; dsimp only; rw [if_neg ht]; exact hn
    · cases e
  | .block id b, s, r, e => by
    rw [exec_block] at e
    cases hv : exec b (lim T I) k s with
    | none => rw [hv] at e; cases e
    | some p => rw [hv] at e; obtain ⟨n, hn⟩ := exec_lim b hv; refine ⟨n, ?_⟩; rw [exec_block, hn]; exact e
  | .loop b, s, r, e => by
    rw [exec_loop] at e
    obtain ⟨n, hn⟩ := iter_lim (fun s r he => exec_lim b he) e
    exact ⟨n, by rw [exec_loop]; exact hn⟩
  | .rangeFunc f ps a b, s, r, e => by
    rw [exec_range] at e
    split at e
    · rename_i g first captured hf
      split at e
      · rename_i v h2 hv
        obtain ⟨n, hn⟩ := lim_iff.1 hv
        refine ⟨n, ?_⟩
        rw [exec_range, hf]
        dsimp only
        rw [hn]; exact e
      · cases e
    · cases e
  | .exit id, _, _, e => ⟨0, e⟩
  | .scope b, s, r, e => by
    rw [exec_scope] at e
    obtain ⟨n, hn⟩ := exec_lim b e
    exact ⟨n, by rw [exec_scope]; exact hn⟩
  | .ret, _, _, e => ⟨0, e⟩

theorem lim_oracle {f : Nat} {a : List AV} {h : AHeap} {r : AV × AHeap} (e : I f a h = some r) : lim T I (.fn f) a h = some r := lim_iff.2 ⟨1, by rw [callF_fn, e]⟩
/-- a function's call, from a run of its body -/
theorem lim_fn {f : Nat} {fn : AFn} (hT : T f = some fn) {a : List AV} {h : AHeap} {r : AV × AHeap} (hI : I f a h = none) {k : Nat}
    (e : finish fn.res (exec fn.body (lim T I) k ⟨a ++ List.replicate (fn.nt - a.length) aundef, h⟩) = some r) : lim T I (.fn f) a h = some r := by
  cases hx : exec fn.body (lim T I) k ⟨a ++ List.replicate (fn.nt - a.length) aundef, h⟩ with
  | none => rw [hx] at e; cases e
  | some p =>
    rw [hx] at e
    obtain ⟨n, hn⟩ := exec_lim _ hx
    refine lim_iff.2 ⟨max n k + 1, ?_⟩
    rw [callF_fn, hI, hT]
    dsimp only
    rw [exec_le (callF_le (Nat.le_max_left n k)) (Nat.le_max_right n k) _ hn]
    exact e
end
end Go.AM
