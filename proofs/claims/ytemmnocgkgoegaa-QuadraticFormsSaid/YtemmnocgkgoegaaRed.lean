/- The reduction of positive definite forms. Plain arithmetic; no program in sight. No condition. -/
import Derived.Test.YtemmnocgkgoegaaAm31
set_option maxRecDepth 100000
namespace Go.AM
open Go
/-- the multiple that brings B into the range from 1 - A to A -/
def nk (A B : Int) : Int := (A - B) / (2 * A)
def nB (A B : Int) : Int := B + 2 * A * nk A B
def nC (A B C : Int) : Int := A * nk A B * nk A B + B * nk A B + C
theorem nB_range {A B : Int} (hA : 1 ≤ A) : -A < nB A B ∧ nB A B ≤ A := by
  have h1 := Int.emod_add_mul_ediv (A - B) (2 * A)
  have h2 := Int.emod_nonneg (A - B) (show 2 * A ≠ 0 by omega)
  have h3 := Int.emod_lt_of_pos (A - B) (show 0 < 2 * A by omega)
  unfold nB nk
  generalize 2 * A * ((A - B) / (2 * A)) = t at h1 ⊢
  omega
theorem nk_unique {A B k : Int} (hA : 1 ≤ A) (h1 : -A < B + 2 * A * k) (h2 : B + 2 * A * k ≤ A) : k = nk A B := by
  have h := (Int.ediv_emod_unique (a := A - B) (r := A - B - 2 * A * k) (q := k) (show 0 < 2 * A by omega)).2 ⟨by omega, by omega, by omega⟩
  exact h.1.symm
theorem disc_id (A B C k : Int) : 4 * (A * (A * k * k + B * k + C)) - (B + 2 * A * k) * (B + 2 * A * k) = 4 * (A * C) - B * B := by grind
/-- a positive definite form within bounds -/
structure VF (A B C : Int) : Prop where
  a1 : 1 ≤ A
  a2 : A ≤ 100000
  b1 : -100000 ≤ B
  b2 : B ≤ 100000
  d1 : 0 < 4 * (A * C) - B * B
  d2 : 4 * (A * C) - B * B ≤ 40000000000
theorem sq_le {B : Int} (b1 : -100000 ≤ B) (b2 : B ≤ 100000) : 0 ≤ B * B ∧ B * B ≤ 10000000000 := by
  have h1 : (B.natAbs * B.natAbs : Nat) ≤ 100000 * 100000 := Nat.mul_le_mul (by omega) (by omega)
  have h2 : ((B.natAbs * B.natAbs : Nat) : Int) = B * B := Int.natAbs_mul_self
  omega
theorem VF.c {A B C : Int} (h : VF A B C) : 1 ≤ C ∧ C ≤ 12500000000 := by
  have h1 := sq_le h.b1 h.b2
  have h2 := h.a1
  have d1 := h.d1
  have d2 := h.d2
  have hpos : 0 < A * C := by omega
  have hC : 0 < C := Int.pos_of_mul_pos_right (a := A) (b := C) hpos (by omega)
  have h3 : 1 * C ≤ A * C := Int.mul_le_mul_of_nonneg_right h2 (by omega)
  omega
theorem VF.norm {A B C : Int} (h : VF A B C) : VF A (nB A B) (nC A B C) := by
  have hr := nB_range (B := B) h.a1
  have hd := disc_id A B C (nk A B)
  have e : 4 * (A * nC A B C) - nB A B * nB A B = 4 * (A * C) - B * B := hd
  have a2 := h.a2
  exact ⟨h.a1, h.a2, by omega, by omega, by rw [e]; exact h.d1, by rw [e]; exact h.d2⟩
abbrev F3 := Int × Int × Int
/-- one step of the reduction -/
def stp (f : F3) : F3 := if f.1 > nC f.1 f.2.1 f.2.2 ∨ f.1 = nC f.1 f.2.1 f.2.2 ∧ nB f.1 f.2.1 < 0 then (nC f.1 f.2.1 f.2.2, -nB f.1 f.2.1, f.1) else (f.1, nB f.1 f.2.1, nC f.1 f.2.1 f.2.2)
def VT (f : F3) : Prop := VF f.1 f.2.1 f.2.2
theorem VT.step {f : F3} (h : VT f) : VT (stp f) := by
  obtain ⟨A, B, C⟩ := f
  have h : VF A B C := h
  have hn := h.norm
  have hc := hn.c
  have hr := nB_range (B := B) h.a1
  unfold stp
  dsimp only
  by_cases hs : A > nC A B C ∨ A = nC A B C ∧ nB A B < 0
  · rw [if_pos hs]
    have a2 := h.a2
    have e1 : nC A B C * A = A * nC A B C := Int.mul_comm _ _
    have e2 : -nB A B * -nB A B = nB A B * nB A B := by rw [Int.neg_mul_neg]
    refine ⟨hc.1, by dsimp only; omega, by dsimp only; omega, by dsimp only; omega, ?_, ?_⟩
    · dsimp only; rw [e1, e2]; exact hn.d1
    · dsimp only; rw [e1, e2]; exact hn.d2
  · rw [if_neg hs]; exact hn
/-- is the form reduced? -/
def isRed (f : F3) : Prop := (f.2.1.natAbs : Int) ≤ f.1 ∧ f.1 ≤ f.2.2 ∧ (0 ≤ f.2.1 ∨ ((f.2.1.natAbs : Int) ≠ f.1 ∧ f.1 ≠ f.2.2))
instance (f : F3) : Decidable (isRed f) := by unfold isRed; infer_instance
theorem nk_zero {A B : Int} (hA : 1 ≤ A) (h1 : -A < B) (h2 : B ≤ A) : nk A B = 0 := (nk_unique (k := 0) hA (by omega) (by omega)).symm
theorem norm_zero {A B C : Int} (hA : 1 ≤ A) (h1 : -A < B) (h2 : B ≤ A) : nB A B = B ∧ nC A B C = C := by
  unfold nB nC
  rw [nk_zero hA h1 h2]
  simp
theorem stp_red {f : F3} (h : VT f) (hr : isRed f) : stp f = f := by
  obtain ⟨A, B, C⟩ := f
  have h : VF A B C := h
  obtain ⟨r1, r2, r3⟩ := hr
  dsimp only at r1 r2 r3
  have hA := h.a1
  obtain ⟨e1, e2⟩ := norm_zero (C := C) hA (show -A < B by omega) (show B ≤ A by omega)
  unfold stp
  dsimp only
  rw [e1, e2, if_neg (by omega)]
theorem red_stp {f : F3} (h : VT f) (he : stp f = f) : isRed f := by
  obtain ⟨A, B, C⟩ := f
  have h : VF A B C := h
  have hA := h.a1
  have hr := nB_range (B := B) hA
  unfold stp at he
  dsimp only at he
  unfold isRed
  dsimp only
  by_cases hs : A > nC A B C ∨ A = nC A B C ∧ nB A B < 0
  · rw [if_pos hs] at he
    simp only [Prod.mk.injEq] at he
    obtain ⟨e1, e2, e3⟩ := he
    exfalso
    rcases hs with hs | ⟨_, hs⟩
    · omega
    · have hz := norm_zero (C := C) hA (show -A < B by omega) (show B ≤ A by omega)
      omega
  · rw [if_neg hs] at he
    simp only [Prod.mk.injEq] at he
    obtain ⟨e1, e2, e3⟩ := he
    omega
/-- a form of the kind that a step leaves: C is the A before -/
def Sw (f : F3) : Prop := f.1 ≤ f.2.2 ∧ -f.2.2 ≤ f.2.1 ∧ f.2.1 ≤ f.2.2
/-- where A is more than half of C, a step ends it -/
theorem half {A B C : Int} (h : VF A B C) (h1 : A ≤ C) (h2 : -C ≤ B) (h3 : B ≤ C) (h4 : C < 2 * A) : A ≤ nC A B C := by
  have hA := h.a1
  have hr := nB_range (B := B) hA
  unfold nB at hr
  unfold nC
  have hk : nk A B = 0 ∨ nk A B = 1 ∨ nk A B = -1 := by
    rcases Int.lt_or_le (nk A B) (-1) with e | e
    · exfalso
      have : 2 * A * nk A B ≤ 2 * A * (-2) := Int.mul_le_mul_of_nonneg_left (by omega) (by omega)
      omega
    · rcases Int.lt_or_le 1 (nk A B) with e2 | e2
      · exfalso
        have : 2 * A * 2 ≤ 2 * A * nk A B := Int.mul_le_mul_of_nonneg_left (by omega) (by omega)
        omega
      · omega
  rcases hk with e | e | e <;> rw [e] at hr ⊢ <;> omega
def itr : Nat → F3 → F3
  | 0, f => f
  | n + 1, f => itr n (stp f)
theorem red_one {A B C : Int} (h : VF A B C) (hs : ¬ (A > nC A B C ∨ A = nC A B C ∧ nB A B < 0)) : isRed (A, nB A B, nC A B C) := by
  have hr := nB_range (B := B) h.a1
  unfold isRed; dsimp only
  omega
theorem red_tie {A B C : Int} (h : VF A B C) (h1 : A = nC A B C) (h2 : nB A B < 0) : isRed (nC A B C, -nB A B, A) := by
  have hr := nB_range (B := B) h.a1
  unfold isRed; dsimp only
  omega
theorem reach_sw : ∀ (m : Nat) (f : F3), VT f → Sw f → f.2.2 < 2 ^ m → ∃ n, n ≤ m + 1 ∧ isRed (itr n f)
  | 0, (A, B, C), h, hw, hc => by
    have h : VF A B C := h
    have := h.a1
    have := hw.1
    dsimp only at *
    omega
  | m + 1, (A, B, C), h, hw, hc => by
    have hv : VF A B C := h
    obtain ⟨w1, w2, w3⟩ := hw
    dsimp only at w1 w2 w3 hc
    by_cases hs : A > nC A B C ∨ A = nC A B C ∧ nB A B < 0
    · have e : stp (A, B, C) = (nC A B C, -nB A B, A) := by unfold stp; dsimp only; rw [if_pos hs]
      rcases hs with hs | ⟨t1, t2⟩
      · have h2A : 2 * A ≤ C := by
          rcases Int.lt_or_le C (2 * A) with g | g
          · have := half hv w1 w2 w3 g; omega
          · exact g
        have hr := nB_range (B := B) hv.a1
        obtain ⟨n, n1, n2⟩ := reach_sw m (nC A B C, -nB A B, A) (by rw [← e]; exact h.step) ⟨by dsimp only; omega, by dsimp only; omega, by dsimp only; omega⟩ (by
          dsimp only
          have e3 : ((2 : Int) ^ (m + 1)) = 2 ^ m * 2 := Int.pow_succ 2 m
          omega)
        exact ⟨n + 1, by omega, by show isRed (itr n (stp (A, B, C))); rw [e]; exact n2⟩
      · exact ⟨1, by omega, by show isRed (stp (A, B, C)); rw [e]; exact red_tie hv t1 t2⟩
    · have e : stp (A, B, C) = (A, nB A B, nC A B C) := by unfold stp; dsimp only; rw [if_neg hs]
      exact ⟨1, by omega, by show isRed (stp (A, B, C)); rw [e]; exact red_one hv hs⟩
theorem reach {f : F3} (h : VT f) : ∃ n, n ≤ 30 ∧ isRed (itr n f) := by
  obtain ⟨A, B, C⟩ := f
  have hv : VF A B C := h
  by_cases hs : A > nC A B C ∨ A = nC A B C ∧ nB A B < 0
  · have e : stp (A, B, C) = (nC A B C, -nB A B, A) := by unfold stp; dsimp only; rw [if_pos hs]
    have hr := nB_range (B := B) hv.a1
    have ha2 := hv.a2
    obtain ⟨n, n1, n2⟩ := reach_sw 17 (nC A B C, -nB A B, A) (by rw [← e]; exact h.step) ⟨by dsimp only; omega, by dsimp only; omega, by dsimp only; omega⟩ (by
      dsimp only
      have : (2 : Int) ^ 17 = 131072 := by decide
      omega)
    exact ⟨n + 1, by omega, by show isRed (itr n (stp (A, B, C))); rw [e]; exact n2⟩
  · have e : stp (A, B, C) = (A, nB A B, nC A B C) := by unfold stp; dsimp only; rw [if_neg hs]
    exact ⟨1, by omega, by show isRed (stp (A, B, C)); rw [e]; exact red_one hv hs⟩
/-- the reduced form -/
def rdF : Nat → F3 → F3
  | 0, f => f
  | m + 1, f => if isRed f then f else rdF m (stp f)
def rd (f : F3) : F3 := rdF 30 f
end Go.AM
