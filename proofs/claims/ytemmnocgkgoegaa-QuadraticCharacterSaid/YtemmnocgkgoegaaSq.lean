/- The squarefree part of a number, by trial. Plain arithmetic; no program in sight. No condition. -/
import Derived.Test.YtemmnocgkgoegaaAm30
namespace Go.AM
open Go
/-- squares of k are drawn out of n, and gathered in s -/
def sqI (k : Nat) : Nat → Int → Nat → Int × Nat
  | 0, n, s => (n, s)
  | f + 1, n, s => if n.tmod ((k * k : Nat) : Int) = 0 then sqI k f (n.tdiv ((k * k : Nat) : Int)) (s * k) else (n, s)
def sqO : Nat → Nat → Int → Nat → Int × Nat
  | 0, _, n, s => (n, s)
  | f + 1, k, n, s => if k * k ≤ n.natAbs then sqO f (k + 1) (sqI k 20 n s).1 (sqI k 20 n s).2 else (n, s)
def sq (n : Int) : Int × Nat := sqO 400 2 n 1
/-- what stays: no zero, and the bound -/
structure SqOK (n : Int) (s : Nat) : Prop where
  n0 : n ≠ 0
  s0 : 1 ≤ s
  b : s * s * n.natAbs ≤ 100000
theorem SqOK.ls {n : Int} {s : Nat} (h : SqOK n s) : s ≤ 316 := by
  have h1 : 1 ≤ n.natAbs := Int.natAbs_pos.2 h.n0
  have h2 : s * s ≤ s * s * n.natAbs := Nat.le_mul_of_pos_right _ h1
  have h3 := h.b
  rcases Nat.lt_or_ge 316 s with h4 | h4
  · have : 317 * 317 ≤ s * s := Nat.mul_le_mul h4 h4
    omega
  · exact h4
theorem SqOK.ln {n : Int} {s : Nat} (h : SqOK n s) : n.natAbs ≤ 100000 := by
  have h1 := h.s0
  have h2 : 1 * 1 ≤ s * s := Nat.mul_le_mul h1 h1
  have h3 : 1 * n.natAbs ≤ s * s * n.natAbs := Nat.mul_le_mul_right _ h2
  have := h.b
  omega
theorem tdiv_abs {n : Int} {q : Nat} (hd : n.tmod (q : Int) = 0) (_hq : 0 < q) : q * (n.tdiv (q : Int)).natAbs = n.natAbs ∧ n = (q : Int) * n.tdiv (q : Int) := by
  have h := Int.mul_tdiv_add_tmod n (q : Int)
  rw [hd, Int.add_zero] at h
  refine ⟨?_, h.symm⟩
  have := congrArg Int.natAbs h
  rw [Int.natAbs_mul, Int.natAbs_natCast] at this
  exact this
theorem SqOK.step {n : Int} {s : Nat} (h : SqOK n s) {k : Nat} (hk : 2 ≤ k) (hd : n.tmod ((k * k : Nat) : Int) = 0) : SqOK (n.tdiv ((k * k : Nat) : Int)) (s * k) := by
  have hkk : 0 < k * k := Nat.mul_pos (by omega) (by omega)
  obtain ⟨h1, h2⟩ := tdiv_abs hd hkk
  refine ⟨fun e => ?_, Nat.mul_pos h.s0 (by omega), ?_⟩
  · rw [e] at h2; exact h.n0 (by simpa using h2)
  · have : s * k * (s * k) * (n.tdiv ((k * k : Nat) : Int)).natAbs = s * s * (k * k * (n.tdiv ((k * k : Nat) : Int)).natAbs) := by
      simp only [Nat.mul_assoc, Nat.mul_comm, Nat.mul_left_comm]
    rw [this, h1]; exact h.b
theorem SqOK.less {n : Int} (_h0 : n ≠ 0) {k : Nat} (hk : 2 ≤ k) (hd : n.tmod ((k * k : Nat) : Int) = 0) : 4 * (n.tdiv ((k * k : Nat) : Int)).natAbs ≤ n.natAbs := by
  have hkk : 2 * 2 ≤ k * k := Nat.mul_le_mul hk hk
  obtain ⟨h1, _⟩ := tdiv_abs hd (by omega)
  rw [← h1]
  exact Nat.mul_le_mul_right _ (by omega)
theorem sqI_ok {k : Nat} (hk : 2 ≤ k) : ∀ (f : Nat) {n : Int} {s : Nat}, SqOK n s → SqOK (sqI k f n s).1 (sqI k f n s).2
  | 0, n, s, h => h
  | f + 1, n, s, h => by
    unfold sqI
    by_cases hd : n.tmod ((k * k : Nat) : Int) = 0
    · rw [if_pos hd]; exact sqI_ok hk f (h.step hk hd)
    · rw [if_neg hd]; exact h
theorem sqO_ok : ∀ (f k : Nat) {n : Int} {s : Nat}, 2 ≤ k → SqOK n s → SqOK (sqO f k n s).1 (sqO f k n s).2
  | 0, _, _, _, _, h => h
  | f + 1, k, n, s, hk, h => by
    unfold sqO
    by_cases hd : k * k ≤ n.natAbs
    · rw [if_pos hd]; exact sqO_ok f (k + 1) (by omega) (sqI_ok hk 20 h)
    · rw [if_neg hd]; exact h
theorem sq_start {n : Int} (h0 : n ≠ 0) (h1 : -100000 ≤ n) (h2 : n ≤ 100000) : SqOK n 1 := ⟨h0, Nat.le_refl _, by omega⟩
theorem sq_ok {n : Int} (h0 : n ≠ 0) (h1 : -100000 ≤ n) (h2 : n ≤ 100000) : SqOK (sq n).1 (sq n).2 := sqO_ok 400 2 (Nat.le_refl _) (sq_start h0 h1 h2)
/-- s grows only -/
theorem sqI_le {k : Nat} (hk : 2 ≤ k) : ∀ (f : Nat) (n : Int) (s : Nat), s ≤ (sqI k f n s).2
  | 0, n, s => Nat.le_refl _
  | f + 1, n, s => by
    unfold sqI
    by_cases hd : n.tmod ((k * k : Nat) : Int) = 0
    · rw [if_pos hd]
      have h1 : s * 1 ≤ s * k := Nat.mul_le_mul_left _ (by omega)
      have h2 := sqI_le hk f (n.tdiv ((k * k : Nat) : Int)) (s * k)
      omega
    · rw [if_neg hd]; exact Nat.le_refl _
theorem sqO_le : ∀ (f k : Nat) (n : Int) (s : Nat), 2 ≤ k → s ≤ (sqO f k n s).2
  | 0, _, _, _, _ => Nat.le_refl _
  | f + 1, k, n, s, hk => by
    unfold sqO
    by_cases hd : k * k ≤ n.natAbs
    · rw [if_pos hd]; exact Nat.le_trans (sqI_le hk 20 n s) (sqO_le f (k + 1) _ _ (by omega))
    · rw [if_neg hd]; exact Nat.le_refl _
theorem sqI_one {k : Nat} (hk : 2 ≤ k) : ∀ (f : Nat) (n : Int) (s : Nat), 1 ≤ s → (sqI k f n s).2 = 1 → s = 1 ∧ (sqI k f n s).1 = n ∧ (1 ≤ f → n.tmod ((k * k : Nat) : Int) ≠ 0)
  | 0, n, s, _, h => ⟨h, rfl, fun h => by omega⟩
  | f + 1, n, s, hs, h => by
    unfold sqI at h ⊢
    by_cases hd : n.tmod ((k * k : Nat) : Int) = 0
    · rw [if_pos hd] at h
      have h1 := sqI_le hk f (n.tdiv ((k * k : Nat) : Int)) (s * k)
      have h2 : 1 * 2 ≤ s * k := Nat.mul_le_mul hs hk
      omega
    · rw [if_neg hd] at h ⊢
      exact ⟨h, rfl, fun _ => hd⟩
theorem sqO_one : ∀ (f k : Nat) (n : Int) (s : Nat), 2 ≤ k → 1 ≤ s → (sqO f k n s).2 = 1 → s = 1 ∧ (sqO f k n s).1 = n
  | 0, _, _, _, _, _, h => ⟨h, rfl⟩
  | f + 1, k, n, s, hk, hs, h => by
    unfold sqO at h ⊢
    by_cases hd : k * k ≤ n.natAbs
    · rw [if_pos hd] at h ⊢
      have h0 := sqI_le hk 20 n s
      obtain ⟨h1, h2⟩ := sqO_one f (k + 1) _ _ (by omega) (by omega) h
      obtain ⟨h3, h4, _⟩ := sqI_one hk 20 n s hs h1
      exact ⟨h3, by rw [h2, h4]⟩
    · rw [if_neg hd] at h ⊢; exact ⟨h, rfl⟩
/-- a squarefree number is its own part, and no multiple of 4 -/
theorem sq_one {n : Int} (h0 : n ≠ 0) (h : (sq n).2 = 1) : (sq n).1 = n ∧ n % 4 ≠ 0 := by
  obtain ⟨_, h1⟩ := sqO_one 400 2 n 1 (Nat.le_refl _) (Nat.le_refl _) h
  refine ⟨h1, fun h4 => ?_⟩
  unfold sq sqO at h
  have habs : 2 * 2 ≤ n.natAbs := by omega
  rw [if_pos habs] at h
  have h5 := sqI_le (Nat.le_refl 2) 20 n 1
  obtain ⟨h6, _⟩ := sqO_one 399 (2 + 1) _ _ (by omega) (by omega) h
  obtain ⟨_, _, h7⟩ := sqI_one (Nat.le_refl 2) 20 n 1 (Nat.le_refl _) h6
  refine h7 (by omega) ?_
  have : ((2 * 2 : Nat) : Int) = 4 := rfl
  rw [this]
  exact Int.tmod_eq_zero_of_dvd (Int.dvd_of_emod_eq_zero h4)
end Go.AM
