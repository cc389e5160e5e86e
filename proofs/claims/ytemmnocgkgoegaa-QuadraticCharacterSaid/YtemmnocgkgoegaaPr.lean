/- Primes: the reference's trial division, the program's factors. No condition. -/
import Derived.Test.YtemmnocgkgoegaaQ4
set_option maxRecDepth 100000
set_option linter.unusedSimpArgs false
namespace Go.AM
open Go
/-- no number from 2 to d - 1 divides n -/
def NoDiv (d n : Nat) : Prop := ∀ e, 2 ≤ e → e < d → ¬ e ∣ n
def isP (n : Nat) : Prop := 1 < n ∧ ∀ e, 2 ≤ e → e * e ≤ n → ¬ e ∣ n
noncomputable def isPB (n : Nat) : Bool := open Classical in decide (isP n)
theorem isPB_true {n : Nat} (h : isP n) : isPB n = true := by unfold isPB; simp [h]
theorem isPB_false {n : Nat} (h : ¬ isP n) : isPB n = false := by unfold isPB; simp [h]
theorem lt_of_sq {a b : Nat} (h : a * a < b * b) : a < b := by
  rcases Nat.lt_or_ge a b with h1 | h1
  · exact h1
  · have := Nat.mul_le_mul h1 h1; omega
/-- below its square root nothing divides it: a prime -/
theorem isP_of_noDiv {d n : Nat} (h : NoDiv d n) (hd : n < d * d) (hn : 1 < n) : isP n :=
  ⟨hn, fun e h2 he => h e h2 (lt_of_sq (Nat.lt_of_le_of_lt he hd))⟩
theorem isP_dvd {n e : Nat} (h : isP n) (he : 2 ≤ e) (hd : e ∣ n) : e = n := by
  obtain ⟨q, rfl⟩ := hd
  have hq : q ≠ 0 := by intro e0; subst e0; have := h.1; omega
  rcases Nat.lt_or_ge q 2 with h1 | h1
  · have : q = 1 := by omega
    subst this; omega
  · rcases Nat.le_total e q with h3 | h3
    · exact absurd (Nat.dvd_mul_right e q) (h.2 e he (Nat.mul_le_mul_left e h3))
    · exact absurd (Nat.dvd_mul_left q e) (h.2 q h1 (Nat.mul_le_mul_right q h3))
section
variable {C : CallT} {K : List Fr} {Q : AX → St → Prop} {h : AHeap}
noncomputable def rprB : ACode := match of29.body with | .seq _ (.seq (.seq _ (.block _ (.loop b))) _) => b | c => c
theorem rpr_loop {n : Nat} (hn : n ≤ 100000) : ∀ (f d : Nat) (y2 : AV), 2 ≤ d → d + f = 402 → NoDiv d n →
    (¬ isP n → ∀ z2 : AV, WX C .ret K ⟨[.int .i64 (n : Int), .bool false, z2], h⟩ Q) →
    ((1 < n ↔ isP n) → ∀ z1 z2 : AV, WX C (.exit 0) K ⟨[.int .i64 (n : Int), z1, z2], h⟩ Q) →
    WK C (.loop rprB) K ⟨[.int .i64 (n : Int), .int .i64 (d : Int), y2], h⟩ Q := by
  intro f
  induction f with
  | zero =>
    intro d y2 hd hf hN _ hQ
    refine WK_loop' (by dsimp only [rprB, of29]) ?_
    have e1 : (d : Int) * (d : Int) = ((d * d : Nat) : Int) := by rw [Int.natCast_mul]
    have hd2 : d = 402 := by omega
    subst hd2
    have e2 : ¬ ((402 * 402 : Nat) : Int) ≤ (n : Int) := by omega
    simp (disch := omega) only [RSd.down, mul_i64, e1, leq_int, e2, decide_false]
    exact hQ ⟨fun h1 => isP_of_noDiv hN (by omega) h1, fun h1 => h1.1⟩ _ _
  | succ f ih =>
    intro d y2 hd hf hN hR hQ
    refine WK_loop' (by dsimp only [rprB, of29]) ?_
    have e1 : (d : Int) * (d : Int) = ((d * d : Nat) : Int) := by rw [Int.natCast_mul]
    have hdd : d * d ≤ 402 * 402 := Nat.mul_le_mul (by omega) (by omega)
    by_cases hle : d * d ≤ n
    · have e2 : ((d * d : Nat) : Int) ≤ (n : Int) := by omega
      by_cases hdv : d ∣ n
      · have e3 : (n : Int) % (d : Int) = 0 := by have := Nat.mod_eq_zero_of_dvd hdv; omega
        simp (disch := omega) only [RSd.down, mul_i64, e1, leq_int, e2, decide_true, rem_pos, eql_int, e3]
        exact hR (fun h1 => h1.2 d hd hle hdv) _
      · have e3 : ¬ (n : Int) % (d : Int) = 0 := by
          intro e; exact hdv (Nat.dvd_of_mod_eq_zero (by omega))
        simp (disch := omega) only [RSd.down, mul_i64, e1, leq_int, e2, decide_true, decide_false, rem_pos, eql_int, e3, add_i64, show (d : Int) + 1 = ((d + 1 : Nat) : Int) from rfl]
        refine ih (d + 1) _ (by omega) (by omega) ?_ hR hQ
        intro e h2 he
        rcases Nat.lt_or_ge e d with h3 | h3
        · exact hN e h2 h3
        · have : e = d := by omega
          subst this; exact hdv
    · have e2 : ¬ ((d * d : Nat) : Int) ≤ (n : Int) := by omega
      simp (disch := omega) only [RSd.down, mul_i64, e1, leq_int, e2, decide_false]
      exact hQ ⟨fun h1 => isP_of_noDiv hN (by omega) h1, fun h1 => h1.1⟩ _ _
end
noncomputable def rprS : List AV → Option AV
  | [.int .i64 n] => if 0 ≤ n ∧ n ≤ 100000 then some (.bool (isPB n.toNat)) else none
  | _ => none
theorem rpr_run {n : Nat} (hn : n ≤ 100000) : ∃ h', lim otab.get I12 (.fn 29) [.int .i64 (n : Int)] .empty = some (.bool (isPB n), h') := by
  refine run_of (fn := of29) rfl rfl ?_
  show WK _ _ [] ⟨[.int .i64 (n : Int), aundef, aundef], .empty⟩ _
  dsimp only [of29]
  simp only [RSd.down]
  refine rpr_loop hn 400 2 _ (Nat.le_refl _) rfl (fun e h1 h2 => by omega) (fun h1 z2 => ?_) (fun h1 z1 z2 => ?_)
  · simp only [RSd.down, Ret_ret, result_1, isPB_false h1]
  · by_cases h2 : 1 < n
    · have : (1 : Int) < (n : Int) := by omega
      simp only [RSd.down, gtr_int, this, decide_true, Ret_ret, result_1, isPB_true (h1.1 h2)]
    · have : ¬ (1 : Int) < (n : Int) := by omega
      simp only [RSd.down, gtr_int, this, decide_false, Ret_ret, result_1, isPB_false (fun h3 => h2 (h1.2 h3))]
noncomputable def I13 : Oracle := ext I12 29 rprS
theorem I13_ok : IOK Go.Proofs.Try.prog I13 := IOK.extL mixed tabOK otabOK I12_ok (g := 29) (fn := af29) rfl fun args av h => by
  unfold rprS at h
  split at h
  · split at h
    · rename_i n hn
      cases h
      obtain ⟨m, rfl⟩ := Int.eq_ofNat_of_zero_le hn.1
      exact ⟨rfl, rfl, rpr_run (by omega)⟩
    · cases h
  · cases h
end Go.AM
