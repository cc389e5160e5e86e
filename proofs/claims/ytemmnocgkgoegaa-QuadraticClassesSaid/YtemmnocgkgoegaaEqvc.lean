/- Equivalent forms have one reduced form. Plain arithmetic. No condition. -/
import Derived.Test.YtemmnocgkgoegaaRedm
set_option maxRecDepth 100000
namespace Go.AM
open Go
theorem itr_red {f : F3} (h : VT f) (hr : isRed f) : ∀ n, itr n f = f
  | 0 => rfl
  | n + 1 => by
    show itr n (stp f) = f
    rw [stp_red h hr]; exact itr_red h hr n
theorem rdF_eq : ∀ (n : Nat) (f : F3), VT f → isRed (itr n f) → ∀ m, n ≤ m → rdF m f = itr n f
  | 0, f, h, hr, m, hm => by
    cases m with
    | zero => rfl
    | succ m => have hr' : isRed f := hr; unfold rdF; rw [if_pos hr']; rfl
  | n + 1, f, h, hr, 0, hm => by omega
  | n + 1, f, h, hr, m + 1, hm => by
    unfold rdF
    by_cases e : isRed f
    · rw [if_pos e, itr_red h e]
    · rw [if_neg e]; exact rdF_eq n (stp f) h.step hr m (by omega)
theorem itr_VT : ∀ (n : Nat) {f : F3}, VT f → VT (itr n f)
  | 0, _, h => h
  | n + 1, _, h => itr_VT n h.step
theorem itr_succ : ∀ (n : Nat) (f : F3), itr (n + 1) f = stp (itr n f)
  | 0, _ => rfl
  | n + 1, f => itr_succ n (stp f)
theorem rd_red {f : F3} (h : VT f) : isRed (rd f) ∧ VT (rd f) := by
  obtain ⟨n, h1, h2⟩ := reach h
  have e : rd f = itr n f := rdF_eq n f h h2 30 h1
  rw [e]; exact ⟨h2, itr_VT n h⟩
theorem rd_stp {f : F3} (h : VT f) : rd f = rd (stp f) := by
  obtain ⟨n, h1, h2⟩ := reach h
  have e : rd f = itr n f := rdF_eq n f h h2 30 h1
  have h3 : itr n (stp f) = itr n f := by
    show itr (n + 1) f = itr n f
    rw [itr_succ, stp_red (itr_VT n h) h2]
  have e2 : rd (stp f) = itr n (stp f) := rdF_eq n (stp f) h.step (by rw [h3]; exact h2) 30 h1
  rw [e, e2, h3]
def dsc3 (f : F3) : Int := f.2.1 * f.2.1 - 4 * (f.1 * f.2.2)
theorem dsc_stp (f : F3) : dsc3 (stp f) = dsc3 f := by
  obtain ⟨A, B, C⟩ := f
  have hd : 4 * (A * nC A B C) - nB A B * nB A B = 4 * (A * C) - B * B := disc_id A B C (nk A B)
  unfold stp dsc3
  dsimp only
  split
  · have e1 : nC A B C * A = A * nC A B C := Int.mul_comm _ _
    have e2 : -nB A B * -nB A B = nB A B * nB A B := by rw [Int.neg_mul_neg]
    dsimp only; rw [e1, e2]; omega
  · dsimp only; omega
theorem dsc_itr : ∀ (n : Nat) (f : F3), dsc3 (itr n f) = dsc3 f
  | 0, _ => rfl
  | n + 1, f => by show dsc3 (itr n (stp f)) = _; rw [dsc_itr n, dsc_stp]
theorem dsc_rd {f : F3} (h : VT f) : dsc3 (rd f) = dsc3 f := by
  obtain ⟨n, h1, h2⟩ := reach h
  have e : rd f = itr n f := rdF_eq n f h h2 30 h1
  rw [e, dsc_itr]
/-- a move along the first variable -/
theorem nk_move {A B n : Int} (hA : 1 ≤ A) : nk A (B + 2 * A * n) = nk A B - n := by
  have h := nB_range (B := B) hA
  unfold nB at h
  refine (nk_unique (k := nk A B - n) hA ?_ ?_).symm
  · rw [Int.mul_sub]; omega
  · rw [Int.mul_sub]; omega
theorem stp_move {A B C n : Int} (hA : 1 ≤ A) : stp (A, B + 2 * A * n, A * n * n + B * n + C) = stp (A, B, C) := by
  have e1 : nB A (B + 2 * A * n) = nB A B := by
    unfold nB; rw [nk_move hA, Int.mul_sub]; omega
  have e2 : nC A (B + 2 * A * n) (A * n * n + B * n + C) = nC A B C := by
    unfold nC; rw [nk_move hA]
    generalize nk A B = k
    grind
  unfold stp
  dsimp only
  rw [e1, e2]
theorem rd_move {A B C n : Int} (h : VF A B C) (h' : VF A (B + 2 * A * n) (A * n * n + B * n + C)) : rd (A, B + 2 * A * n, A * n * n + B * n + C) = rd (A, B, C) := by
  rw [rd_stp (f := (A, B, C)) h, rd_stp (f := (A, B + 2 * A * n, A * n * n + B * n + C)) h', stp_move h.a1]
/-- the turned form -/
theorem VF.turn {A B C : Int} (h : VF A B C) (hC : C ≤ 100000) : VF C (-B) A := by
  have hc := h.c
  have a2 := h.a2
  have b1 := h.b1
  have b2 := h.b2
  have d1 := h.d1
  have d2 := h.d2
  have e1 : C * A = A * C := Int.mul_comm _ _
  have e2 : -B * -B = B * B := by rw [Int.neg_mul_neg]
  exact ⟨hc.1, hC, by omega, by omega, by rw [e1, e2]; exact d1, by rw [e1, e2]; exact d2⟩
set_option linter.unusedVariables false in
theorem VF.move1 {A B C : Int} (h : VF A B C) (s : Int) (hs : s = 1 ∨ s = -1) (hb : -100000 ≤ B + 2 * A * s ∧ B + 2 * A * s ≤ 100000) : VF A (B + 2 * A * s) (A * s * s + B * s + C) := by
  have hd := disc_id A B C s
  exact ⟨h.a1, h.a2, hb.1, hb.2, by rw [hd]; exact h.d1, by rw [hd]; exact h.d2⟩
set_option linter.unusedVariables false in
theorem stp_turn_small {A B C : Int} (hA : 1 ≤ A) (h1 : A < C) (h2 : -C ≤ B) (h3 : B < C) : stp (C, -B, A) = (A, B, C) := by
  obtain ⟨e1, e2⟩ := norm_zero (A := C) (B := -B) (C := A) (by omega) (by omega) (by omega)
  unfold stp; dsimp only
  rw [e1, e2, if_pos (.inl (by omega)), Int.neg_neg]
theorem abs_lt_sum {A B C : Int} (h : VF A B C) (hAC : A ≤ C) : B < 2 * C ∧ -(2 * C) < B := by
  have hA := h.a1
  have d1 := h.d1
  have h1 : A * C ≤ C * C := Int.mul_le_mul_of_nonneg_right hAC (by omega)
  constructor
  · rcases Int.lt_or_le B (2 * C) with g | g
    · exact g
    · exfalso
      have : 2 * C * (2 * C) ≤ B * B := Int.mul_le_mul g g (by omega) (by omega)
      have e : 2 * C * (2 * C) = 4 * (C * C) := by grind
      omega
  · rcases Int.lt_or_le (-(2 * C)) B with g | g
    · exact g
    · exfalso
      have : 2 * C * (2 * C) ≤ -B * -B := Int.mul_le_mul (by omega) (by omega) (by omega) (by omega)
      have e : 2 * C * (2 * C) = 4 * (C * C) := by grind
      have e2 : -B * -B = B * B := by rw [Int.neg_mul_neg]
      omega
theorem turn_le : ∀ (m : Nat) (A B C : Int), A + C ≤ m → VF A B C → A ≤ C → C ≤ 100000 → rd (C, -B, A) = rd (A, B, C) := by
  intro m
  induction m with
  | zero => intro A B C hm h; have := h.a1; have := h.c; omega
  | succ m ih =>
    intro A B C hm h hAC hC
    have hA := h.a1
    have ht := h.turn hC
    have hb := abs_lt_sum h hAC
    -- the far cases, by the sign
    have far : ∀ s : Int, (s = 1 ∨ s = -1) → C ≤ -(s * B) → ¬ (A = C ∧ -(s * B) = C) → nk C (-B) = -s → rd (C, -B, A) = rd (A, B, C) := by
      intro s hs hB hne hk
      have hss : s * s = 1 := by rcases hs with e | e <;> subst e <;> rfl
      -- f moved by s
      have hbm : -100000 ≤ B + 2 * A * s ∧ B + 2 * A * s ≤ 100000 := by
        have b1 := h.b1
        have b2 := h.b2
        rcases hs with e | e <;> subst e <;> omega
      have hf' := h.move1 s hs hbm
      have r1 := rd_move h hf'
      have eD : A * s * s + B * s + C = A + s * B + C := by rw [Int.mul_assoc, hss, Int.mul_one, Int.mul_comm B s]
      rw [eD] at hf' r1
      have hD := hf'.c
      have hDA : A + s * B + C ≤ A := by omega
      have hDC : A + s * B + C < C := by omega
      -- the turned one, normed
      have eB : nB C (-B) = -B - 2 * C * s := by unfold nB; rw [hk, Int.mul_neg]; omega
      have eC : nC C (-B) A = A + s * B + C := by
        unfold nC; rw [hk]
        have : C * -s * -s + -B * -s + A = C * (s * s) + s * B + A := by grind
        rw [this, hss, Int.mul_one]; omega
      have st : stp (C, -B, A) = (A + s * B + C, -(-B - 2 * C * s), C) := by
        unfold stp; dsimp only
        rw [eB, eC, if_pos (.inl (by omega))]
      have hv := VT.step (f := (C, -B, A)) ht
      rw [st] at hv
      have hv : VF (A + s * B + C) (-(-B - 2 * C * s)) C := hv
      rw [rd_stp (f := (C, -B, A)) ht, st, ← r1]
      -- both turned forms differ by a move
      have q := ih (A + s * B + C) (-(B + 2 * A * s)) A (by omega) (hf'.turn (by omega)) hDA h.a2
      rw [Int.neg_neg] at q
      rw [q]
      have e3 : -(-B - 2 * C * s) + 2 * (A + s * B + C) * (-s) = -(B + 2 * A * s) := by
        have : -(-B - 2 * C * s) + 2 * (A + s * B + C) * (-s) = B + 2 * C * s - 2 * A * s - 2 * (s * s) * B - 2 * C * s := by grind
        rw [this, hss]; omega
      have e4 : (A + s * B + C) * (-s) * (-s) + -(-B - 2 * C * s) * (-s) + C = A := by
        have : (A + s * B + C) * (-s) * (-s) + -(-B - 2 * C * s) * (-s) + C = (A + s * B + C) * (s * s) - s * B - 2 * C * (s * s) + C := by grind
        rw [this, hss]; omega
      have mv := rd_move (n := -s) hv (by rw [e3, e4]; exact hf'.turn (by omega))
      rw [e3, e4] at mv
      exact mv.symm
    rcases Int.lt_or_le B C with g1 | g1
    · rcases Int.lt_or_le B (-C) with g2 | g2
      · -- B < -C
        refine far 1 (.inl rfl) (by omega) (by omega) ?_
        exact (nk_unique (k := -1) (by omega) (by omega) (by omega)).symm
      · rcases Int.lt_or_le A C with g3 | g3
        · rw [rd_stp (f := (C, -B, A)) ht, stp_turn_small hA g3 g2 g1]
        · -- A = C
          have e : A = C := by omega
          subst e
          rcases Int.lt_or_le 0 B with g4 | g4
          · have st : stp (A, -B, A) = (A, B, A) := by
              obtain ⟨e1, e2⟩ := norm_zero (A := A) (B := -B) (C := A) hA (by omega) (by omega)
              unfold stp; dsimp only
              rw [e1, e2, if_pos (.inr ⟨rfl, by omega⟩), Int.neg_neg]
            rw [rd_stp (f := (A, -B, A)) ht, st]
          · rcases Int.lt_or_le (-A) B with g5 | g5
            · rcases Int.lt_or_le B 0 with g6 | g6
              · have st : stp (A, B, A) = (A, -B, A) := by
                  obtain ⟨e1, e2⟩ := norm_zero (A := A) (B := B) (C := A) hA (by omega) (by omega)
                  unfold stp; dsimp only
                  rw [e1, e2, if_pos (.inr ⟨rfl, by omega⟩)]
                rw [rd_stp (f := (A, B, A)) h, st]
              · have : B = 0 := by omega
                subst this; rfl
            · have eb : B = -A := by omega
              subst eb
              have st : stp (A, -A, A) = (A, - -A, A) := by
                have hk : nk A (-A) = 1 := (nk_unique (k := 1) hA (by omega) (by omega)).symm
                have e1 : nB A (-A) = A := by unfold nB; rw [hk]; omega
                have e2 : nC A (-A) A = A := by unfold nC; rw [hk]; omega
                unfold stp; dsimp only
                rw [e1, e2, if_neg (by omega), Int.neg_neg]
              rw [rd_stp (f := (A, -A, A)) h, st]
    · -- C ≤ B
      by_cases g3 : A = C ∧ B = C
      · obtain ⟨e1, e2⟩ := g3
        subst e1; subst e2
        have st : stp (B, -B, B) = (B, B, B) := by
          have hk : nk B (-B) = 1 := (nk_unique (k := 1) hA (by omega) (by omega)).symm
          have e1 : nB B (-B) = B := by unfold nB; rw [hk]; omega
          have e2 : nC B (-B) B = B := by unfold nC; rw [hk]; omega
          unfold stp; dsimp only
          rw [e1, e2, if_neg (by omega)]
        rw [rd_stp (f := (B, -B, B)) ht, st]
      · refine far (-1) (.inr rfl) (by omega) (by omega) ?_
        exact (nk_unique (k := 1) (by omega) (by omega) (by omega)).symm
theorem rd_turn {A B C : Int} (h : VF A B C) (hC : C ≤ 100000) : rd (C, -B, A) = rd (A, B, C) := by
  rcases Int.lt_or_le C A with g | g
  · have := turn_le (C + A).toNat C (-B) A (by have := h.a1; have := h.c; omega) (h.turn hC) (by omega) h.a2
    rw [Int.neg_neg] at this
    exact this.symm
  · exact turn_le (A + C).toNat A B C (by have := h.a1; have := h.c; omega) h g hC
end Go.AM
