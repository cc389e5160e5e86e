/- QuadraticCharacter: what the law's code answers. No condition. -/
import Derived.Test.YtemmnocgkgoegaaSymLaw
set_option maxRecDepth 100000
set_option linter.unusedSimpArgs false
set_option linter.unusedVariables false
namespace Go.AM
open Go
section
variable {C : CallT} {K : List Fr} {Q : AX → St → Prop} {h : AHeap}
noncomputable def gcdB9 : ACode := match of32.body with | .seq _ (.seq (.block _ (.loop b)) _) => b | c => c
theorem gcd9_loop : ∀ (m a b : Nat) (y2 : AV), b < m →
    (∀ (z1 z2 : AV), WX C (.exit 0) K ⟨[.int .i64 (Nat.gcd a b : Int), z1, z2], h⟩ Q) →
    WK C (.loop gcdB9) K ⟨[.int .i64 (a : Int), .int .i64 (b : Int), y2], h⟩ Q
  | 0, a, b, y2, hm, hk => by omega
  | m + 1, a, b, y2, hm, hk => by
    refine WK_loop' (by dsimp only [gcdB9, of32]) ?_
    by_cases e : b = 0
    · subst e
      simp only [RSd.down, gtr_int, show decide ((0 : Int) < ((0 : Nat) : Int)) = false from rfl]
      have := hk (.int .i64 ((0 : Nat) : Int)) (.bool false)
      rw [Nat.gcd_zero_right] at this
      exact this
    · have e2 : (0 : Int) < (b : Int) := by omega
      have e3 : (a : Int) % (b : Int) = ((a % b : Nat) : Int) := by simp
      simp (disch := omega) only [RSd.down, gtr_int, e2, decide_true, rem_pos, e3]
      refine gcd9_loop m b (a % b) _ (by have := Nat.mod_lt a (show b > 0 by omega); omega) ?_
      rw [Nat.gcd_comm b (a % b), ← Nat.gcd_rec, Nat.gcd_comm b a]
      exact hk
theorem c_gcd9 (a b : Nat) : lim otab.get N9 (.fn 32) [.int .i64 (a : Int), .int .i64 (b : Int)] h = some (.int .i64 (Nat.gcd a b : Int), h) := by
  refine runH (fn := of32) rfl rfl ?_
  show WK _ _ [] ⟨[.int .i64 (a : Int), .int .i64 (b : Int), aundef], h⟩ _
  dsimp only [of32]
  simp only [RSd.down]
  refine gcd9_loop (b + 1) a b _ (by omega) fun z1 z2 => ?_
  simp only [RSd.down, RetH_ret, result_1, and_self]
theorem c_kroK {d n : Int} (hf : fundP d) (b1 : -100000 ≤ d) (b2 : d ≤ 100000) (b3 : -100000 ≤ n) (b4 : n ≤ 100000) : lim otab.get N9 (.fn 31) [.int .i64 d, .int .i64 n] h = some (.tup [.int .i64 (QR.K d n), .int .i64 0], h) := by
  rw [c_kro9]
  have hb : bd [d, n] = 0 := by
    rcases bd2_cases d n with ⟨hb, _⟩ | hb
    · exact hb
    · have h1 : lg d = 0 := by unfold lg; rw [if_neg (by omega)]
      have h2 : lg n = 0 := by unfold lg; rw [if_neg (by omega)]
      simp [bd, h1, h2]
  have h4 : ¬ 1 < d % 4 := by
    obtain ⟨_, _, h | h⟩ := hf <;> omega
  unfold kroV; rw [hb, if_neg (by decide), if_neg h4]
end
theorem fundP_zero {d : Int} (hf : fundP d) : d ≠ 0 ∧ d ≠ 1 ∧ (d % 4 = 0 ∨ d % 4 = 1) := by
  obtain ⟨h0, h1, h | h⟩ := hf
  · exact ⟨h0, h1, .inr h.1⟩
  · exact ⟨h0, h1, .inl h.1⟩
theorem chLaw (d m n : Int) : ∃ h', lim otab.get N9 (.fn 8) [.int .i16 d, .int .i16 m, .int .i16 n] .empty = some (.bool true, h') := by
  refine run_of (fn := of8) rfl rfl ?_
  show WK _ _ [] ⟨[.int .i16 d, .int .i16 m, .int .i16 n, aundef, aundef, aundef, aundef, aundef, aundef, aundef], .empty⟩ _
  dsimp only [of8]
  by_cases t1 : d < -300
  · simp only [RSd.down, lss_int, t1, decide_true, c_aw9, Ret_ret, result_1]
  by_cases t2 : 300 < d
  · simp only [RSd.down, lss_int, gtr_int, t1, t2, decide_true, decide_false, c_aw9, Ret_ret, result_1]
  have hl : lg d = 0 := by unfold lg; rw [if_neg (by omega)]
  by_cases t3 : ¬ fundP d
  · simp (disch := omega) only [RSd.down, lss_int, gtr_int, t1, t2, decide_false, toIntV_i64, c_rfund9, t3, and_false, not_bool, Bool.not_false, c_aw9, Ret_ret, result_1]
  have t3 := Decidable.of_not_not t3
  by_cases t4 : m < -300
  · simp (disch := omega) only [RSd.down, lss_int, gtr_int, t1, t2, decide_false, decide_true, toIntV_i64, c_rfund9, t3, hl, and_self, not_bool, Bool.not_true, t4, c_aw9, Ret_ret, result_1]
  by_cases t5 : 300 < m
  · simp (disch := omega) only [RSd.down, lss_int, gtr_int, t1, t2, decide_false, decide_true, toIntV_i64, c_rfund9, t3, hl, and_self, not_bool, Bool.not_true, t4, t5, c_aw9, Ret_ret, result_1]
  by_cases t6 : n < -300
  · simp (disch := omega) only [RSd.down, lss_int, gtr_int, t1, t2, decide_false, decide_true, toIntV_i64, c_rfund9, t3, hl, and_self, not_bool, Bool.not_true, t4, t5, t6, c_aw9, Ret_ret, result_1]
  by_cases t7 : 300 < n
  · simp (disch := omega) only [RSd.down, lss_int, gtr_int, t1, t2, decide_false, decide_true, toIntV_i64, c_rfund9, t3, hl, and_self, not_bool, Bool.not_true, t4, t5, t6, t7, c_aw9, Ret_ret, result_1]
  obtain ⟨d0, d1, d4⟩ := fundP_zero t3
  have hmn : -90000 ≤ m * n ∧ m * n ≤ 90000 := by
    have h1 : m.natAbs * n.natAbs ≤ 300 * 300 := Nat.mul_le_mul (by omega) (by omega)
    rw [← Int.natAbs_mul] at h1
    omega
  have um : unit1 (QR.K d m) := by rcases QR.K_tri (d := d) (n := m) with e | e | e <;> rw [e] <;> exact ⟨by decide, by decide⟩
  have un : unit1 (QR.K d n) := by rcases QR.K_tri (d := d) (n := n) with e | e | e <;> rw [e] <;> exact ⟨by decide, by decide⟩
  obtain ⟨u1, u2⟩ := mul_unit um un
  have e1 : decide (QR.K d m * QR.K d n ≠ QR.K d (m * n)) = false := decide_eq_false (fun h => h (QR.K_mul d1).symm)
  have hz := QR.K_zero (m := m) d1 d0 d4
  have e2 : (!(decide (QR.K d m = 0) == decide (((Nat.gcd m.natAbs d.natAbs : Nat) : Int) ≠ 1))) = false := by
    have h1 : decide (((Nat.gcd m.natAbs d.natAbs : Nat) : Int) ≠ 1) = decide (QR.K d m = 0) := by
      refine decide_eq_decide.2 ?_
      rw [hz]; omega
    rw [h1]; cases decide (QR.K d m = 0) <;> rfl
  have f00 : decide ((0 : Int) ≠ 0) = false := rfl
  by_cases t8 : 0 < m
  · have e3 := QR.K_period d0 d4 t8
    have e4 : decide (QR.K d m ≠ QR.K d m) = false := decide_eq_false (fun h => h rfl)
    simp (disch := omega) only [RSd.down, lss_int, gtr_int, t1, t2, decide_false, decide_true, toIntV_i64, c_rfund9, t3, hl, and_self, not_bool, Bool.not_true, t4, t5, t6, t7, neg_i64, max_int, max_abs, c_kroK t3, mul_i64, neq_int, f00, e1, eql_int, c_gcd9, neq_bool, e2, t8, add_i64, e3, e4, c_aw9, Ret_ret, result_1]
  · simp (disch := omega) only [RSd.down, lss_int, gtr_int, t1, t2, decide_false, decide_true, toIntV_i64, c_rfund9, t3, hl, and_self, not_bool, Bool.not_true, t4, t5, t6, t7, neg_i64, max_int, max_abs, c_kroK t3, mul_i64, neq_int, f00, e1, eql_int, c_gcd9, neq_bool, e2, t8, c_aw9, Ret_ret, result_1]
end Go.AM
