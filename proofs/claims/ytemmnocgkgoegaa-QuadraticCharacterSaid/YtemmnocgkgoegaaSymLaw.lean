/- QuadraticSymbols: what the law's code answers. No condition. -/
import Derived.Test.YtemmnocgkgoegaaSym
set_option maxRecDepth 100000
set_option linter.unusedSimpArgs false
set_option linter.unusedVariables false
namespace Go.AM
open Go
section
variable {h : AHeap}
theorem c_aw9 : lim otab.get N9 (.fn 17) [] h = some (.bool true, h) := lim_oracle rfl
theorem c_large9 {n : Int} : lim otab.get N9 (.fn 16) [.int .i64 n] h = some (.int .i64 (lg n), h) := lim_oracle rfl
theorem c_rfund9 {n : Int} : lim otab.get N9 (.fn 15) [.int .i64 n] h = some (.bool (decide (lg n = 0 ∧ fundP n)), h) := lim_oracle rfl
theorem c_mod9 {a m : Int} (h0 : 0 < m) (h1 : m ≤ 4611686018427387904) : lim otab.get N9 (.fn 36) [.int .i64 a, .int .i64 m] h = some (.int .i64 (a % m), h) :=
  lim_oracle (or_hit (spec := modS) (if_pos ⟨h0, h1⟩))
theorem c_rkr9 {d n : Int} (b1 : -100000 ≤ d) (b2 : d ≤ 100000) (b3 : -100000 ≤ n) (b4 : n ≤ 100000) : lim otab.get N9 (.fn 37) [.int .i64 d, .int .i64 n] h = some (.int .i64 (QR.K d n), h) :=
  lim_oracle (or_hit (spec := krS) (if_pos ⟨b1, b2, b3, b4⟩))
theorem c_kro9 {d n : Int} : lim otab.get N9 (.fn 31) [.int .i64 d, .int .i64 n] h = some (kroV d n, h) := lim_oracle rfl
theorem c_spl9 {d n : Int} : lim otab.get N9 (.fn 35) [.int .i64 d, .int .i64 n] h = some (splV d n, h) := lim_oracle rfl
theorem c_rpr9 {n : Int} (h2 : n ≤ 100000) : lim otab.get N9 (.fn 29) [.int .i64 n] h = some (.bool (decide (prE n = 0)), h) := by
  by_cases hn : 0 ≤ n
  · have e : decide (prE n = 0) = isPB n.toNat := by
      unfold prE
      by_cases h1 : 1 ≤ n
      · cases hb : isPB n.toNat <;> simp [h1]
      · have : n = 0 := by omega
        subst this
        have : isPB 0 = false := isPB_false (fun h => by have := h.1; omega)
        simp [this]
    rw [e]
    exact lim_oracle (or_hit (spec := rprS) (if_pos ⟨hn, h2⟩))
  · have e : decide (prE n = 0) = false := by
      unfold prE
      rw [if_neg (by omega)]; rfl
    rw [e]
    have hx : N9 29 [.int .i64 n] h = none := by
      show (match rprS [.int .i64 n] with | some av => some (av, h) | none => none) = none
      have : rprS [.int .i64 n] = none := if_neg (by omega)
      rw [this]
    refine runH (fn := of29) rfl hx ?_
    show WK _ _ [] ⟨[.int .i64 n, aundef, aundef], h⟩ _
    dsimp only [of29]
    simp only [RSd.down]
    refine WK_loop ?_
    have e1 : ((2 : Int) * 2 ≤ n) = False := eq_false (by omega)
    have e2 : ((1 : Int) < n) = False := eq_false (by omega)
    simp (disch := omega) only [RSd.down, mul_i64, leq_int, e1, decide_false, gtr_int, e2, RetH_ret, result_1, and_self]
end
theorem symLaw (d n : Int) : ∃ h', lim otab.get N9 (.fn 10) [.int .i64 d, .int .i64 n] .empty = some (.bool true, h') := by
  refine run_of (fn := of10) rfl rfl ?_
  show WK _ _ [] ⟨[.int .i64 d, .int .i64 n, aundef, aundef, aundef, aundef, aundef, aundef], .empty⟩ _
  dsimp only [of10]
  rcases bd2_cases d n with ⟨hb, b1, b2, b3, b4⟩ | hb
  · have hm0 : (if (0 : Int) > 0 then (0 : Int) else 0) = 0 := rfl
    have hln : lg n = 0 := by rcases lg_cases n with ⟨h1, _⟩ | ⟨_, h1⟩ <;> omega
    have hl : lg d = 0 := by rcases lg_cases d with ⟨h1, _⟩ | ⟨_, h1⟩ <;> omega
    have f00 : decide ((0 : Int) ≠ 0) = false := rfl
    by_cases h4 : 1 < d % 4
    · have hk : kroV d n = .tup [.int .i64 0, .int .i64 3] := by unfold kroV; rw [hb, if_neg (by decide), if_pos h4]
      have hf : ¬ fundP d := by rintro ⟨_, _, h | h⟩ <;> omega
      have hs : splV d n = .tup [.int .i64 0, .int .i64 3] := by unfold splV; rw [hb, if_neg (by decide), if_pos hf]
      simp (disch := omega) only [RSd.down, c_kro9, c_spl9, hk, hs, c_large9, max_int, hln, hl, hm0, neq_int, f00, c_mod9, gtr_int, h4, decide_true, eql_int, c_aw9, Ret_ret, result_1]
    · have hk : kroV d n = .tup [.int .i64 (QR.K d n), .int .i64 0] := by unfold kroV; rw [hb, if_neg (by decide), if_neg h4]
      have hne : decide (QR.K d n ≠ QR.K d n) = false := decide_eq_false (fun h => h rfl)
      by_cases hf : fundP d
      · by_cases hp : prE n = 0
        · have hs : splV d n = .tup [.int .i64 (QR.K d n), .int .i64 0] := by unfold splV; rw [hb, if_neg (by decide), if_neg (fun h => h hf), if_neg (fun h => h hp)]
          simp (disch := omega) only [RSd.down, c_kro9, c_spl9, hk, hs, c_large9, max_int, hln, hl, hm0, neq_int, f00, c_mod9, gtr_int, h4, decide_false, c_rkr9 b1 b2 b3 b4, hne, c_rfund9, hl, hf, and_self, decide_true, not_bool, Bool.not_true, c_rpr9 b4, hp, eql_int, c_aw9, Ret_ret, result_1]
        · have hp7 : prE n = 7 := by unfold prE at hp ⊢; split at hp <;> first | omega | (rename_i hx; rw [if_neg hx])
          have hs : splV d n = .tup [.int .i64 0, .int .i64 7] := by unfold splV; rw [hb, if_neg (by decide), if_neg (fun h => h hf), if_pos hp, hp7]
          have hpf : (prE n = 0) = False := eq_false hp
          simp (disch := omega) only [RSd.down, c_kro9, c_spl9, hk, hs, c_large9, max_int, hln, hl, hm0, neq_int, f00, c_mod9, gtr_int, h4, decide_false, c_rkr9 b1 b2 b3 b4, hne, c_rfund9, hl, hf, and_self, decide_true, not_bool, Bool.not_true, Bool.not_false, c_rpr9 b4, hpf, eql_int, c_aw9, Ret_ret, result_1]
      · have hs : splV d n = .tup [.int .i64 0, .int .i64 3] := by unfold splV; rw [hb, if_neg (by decide), if_pos hf]
        simp (disch := omega) only [RSd.down, c_kro9, c_spl9, hk, hs, c_large9, max_int, hln, hl, hm0, neq_int, f00, c_mod9, gtr_int, h4, decide_false, c_rkr9 b1 b2 b3 b4, hne, c_rfund9, hl, hf, and_false, decide_true, not_bool, Bool.not_false, eql_int, c_aw9, Ret_ret, result_1]
  · have hm : (if lg n > lg d then lg n else lg d) = 4 := by
      rcases lg_cases d with ⟨h1, h3⟩ | ⟨h1, h3⟩ <;> rcases lg_cases n with ⟨h2, h5⟩ | ⟨h2, h5⟩ <;> rw [h1, h2] <;> first | rfl | (simp [bd, h1, h2] at hb)
    have hk : kroV d n = .tup [.int .i64 0, .int .i64 4] := by unfold kroV; rw [hb, if_pos (by decide)]
    have hs : splV d n = .tup [.int .i64 0, .int .i64 4] := by unfold splV; rw [hb, if_pos (by decide)]
    simp (disch := omega) only [RSd.down, c_kro9, c_spl9, hk, hs, c_large9, max_int, hm, neq_int, show decide ((4 : Int) ≠ 0) = true from rfl, eql_int, decide_true, c_aw9, Ret_ret, result_1]
end Go.AM
