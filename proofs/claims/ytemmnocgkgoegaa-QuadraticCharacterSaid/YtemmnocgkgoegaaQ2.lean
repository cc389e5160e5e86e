/- Residues, absolute values, bounds, fundamental discriminants: what the code computes. No condition. -/
import Derived.Test.YtemmnocgkgoegaaPart
set_option maxRecDepth 100000
set_option linter.unusedSimpArgs false
namespace Go.AM
open Go
/-- an integer within the machine's bounds, with room -/
def small (n : Int) : Prop := -4611686018427387904 ≤ n ∧ n ≤ 4611686018427387904
instance (n : Int) : Decidable (small n) := by unfold small; infer_instance

def absS : List AV → Option AV
  | [.int .i64 n] => if small n then some (.int .i64 (n.natAbs : Int)) else none
  | _ => none
theorem abs_run {n : Int} (h : small n) : ∃ h', lim otab.get I1 (.fn 44) [.int .i64 n] .empty = some (.int .i64 (n.natAbs : Int), h') := by
  refine run_of (fn := of44) rfl rfl ?_
  show WK _ _ [] ⟨[.int .i64 n, aundef], .empty⟩ _
  dsimp only [of44]
  unfold small at h
  simp (disch := omega) only [RSd.down, neg_i64, max_int, max_abs, Ret_ret, result_1]
noncomputable def I2 : Oracle := ext I1 44 absS
theorem I2_ok : IOK Go.Proofs.Try.prog I2 := IOK.extL mixed tabOK otabOK I1_ok (g := 44) (fn := af44) rfl fun args av h => by
  unfold absS at h
  split at h
  · split at h
    · rename_i n hn; cases h; exact ⟨rfl, rfl, abs_run hn⟩
    · cases h
  · cases h

section
variable {K : List Fr} {Q : AX → St → Prop} {h : AHeap}
theorem c_abs2 {n : Int} (hn : small n) : lim otab.get I2 (.fn 44) [.int .i64 n] h = some (.int .i64 (n.natAbs : Int), h) :=
  lim_oracle (or_hit (spec := absS) (if_pos hn))
noncomputable def rpartI : ACode := match of18.body with | .seq _ (.seq _ (.seq (.seq _ (.block _ (.loop (.seq _ (.seq (.block _ (.block _ (.loop b))) _))))) _)) => b | c => c
noncomputable def rpartO : ACode := match of18.body with | .seq _ (.seq _ (.seq (.seq _ (.block _ (.loop b))) _)) => b | c => c
theorem rpartI_loop {k : Nat} (hk : 2 ≤ k) (hk2 : k ≤ 402) : ∀ (f : Nat) (n : Int) (s : Nat) (y3 y4 : AV), SqOK n s → n.natAbs < 4 ^ f →
    (∀ z3 : AV, WX (lim otab.get I2) (.exit 2) K ⟨[.int .i64 (k : Int), .int .i64 (sqI k f n s).1, .int .i64 ((sqI k f n s).2 : Int), z3, y4], h⟩ Q) →
    WK (lim otab.get I2) (.loop rpartI) K ⟨[.int .i64 (k : Int), .int .i64 n, .int .i64 (s : Int), y3, y4], h⟩ Q
  | 0, n, s, y3, y4, H, hf, hk => by
    have := Int.natAbs_pos.2 H.n0
    omega
  | f + 1, n, s, y3, y4, H, hf, hQ => by
    refine WK_loop' (by dsimp only [rpartI, of18]) ?_
    have hkk : k * k ≤ 402 * 402 := Nat.mul_le_mul hk2 hk2
    have hkk2 : 2 * 2 ≤ k * k := Nat.mul_le_mul hk hk
    have e1 : (k : Int) * (k : Int) = ((k * k : Nat) : Int) := by rw [Int.natCast_mul]
    have hn := H.ln
    have hs := H.ls
    simp (disch := omega) only [RSd.down, mul_i64, e1, rem_i64, eql_int]
    unfold sqI at hQ
    refine WB_split (fun hd => ?_) (fun hd => ?_)
    · rw [if_pos hd] at hQ
      have hlt := SqOK.less H.n0 hk hd
      have hsk : s * k ≤ 316 * 402 := Nat.mul_le_mul hs hk2
      have e2 : (s : Int) * (k : Int) = ((s * k : Nat) : Int) := by rw [Int.natCast_mul]
      simp (disch := omega) only [RSd.down, mul_i64, e1, quo_i64, e2]
      exact rpartI_loop hk hk2 f _ _ _ _ (H.step hk hd) (by rw [Nat.pow_succ] at hf; omega) hQ
    · rw [if_neg hd] at hQ
      simp only [RSd.down]
      exact hQ _
theorem rpartO_loop : ∀ (f k : Nat) (n : Int) (s : Nat) (y3 y4 : AV), 2 ≤ k → k + f = 402 → SqOK n s →
    (∀ z1 z3 z4 : AV, WX (lim otab.get I2) (.exit 0) K ⟨[z1, .int .i64 (sqO f k n s).1, .int .i64 ((sqO f k n s).2 : Int), z3, z4], h⟩ Q) →
    WK (lim otab.get I2) (.loop rpartO) K ⟨[.int .i64 (k : Int), .int .i64 n, .int .i64 (s : Int), y3, y4], h⟩ Q := by
  intro f
  induction f with
  | zero =>
    intro k n s y3 y4 hk hf H hQ
    refine WK_loop' (by dsimp only [rpartO, of18]) ?_
    have e1 : (k : Int) * (k : Int) = ((k * k : Nat) : Int) := by rw [Int.natCast_mul]
    have hk2 : k = 402 := by omega
    subst hk2
    have hn := H.ln
    have hsm : small n := by unfold small; omega
    have e2 : decide (((402 * 402 : Nat) : Int) ≤ (n.natAbs : Int)) = false := decide_eq_false (by omega)
    simp (disch := omega) only [RSd.down, mul_i64, e1, c_abs2 hsm, leq_int, e2]
    exact hQ _ _ _
  | succ f ih =>
    intro k n s y3 y4 hk hf H hQ
    refine WK_loop' (by dsimp only [rpartO, of18]) ?_
    have e1 : (k : Int) * (k : Int) = ((k * k : Nat) : Int) := by rw [Int.natCast_mul]
    have hkk : k * k ≤ 402 * 402 := Nat.mul_le_mul (by omega) (by omega)
    have hn := H.ln
    have hsm : small n := by unfold small; omega
    simp (disch := omega) only [RSd.down, mul_i64, e1, c_abs2 hsm, leq_int]
    unfold sqO at hQ
    refine WB_split (fun hd => ?_) (fun hd => ?_)
    · rw [if_pos (by omega)] at hQ
      simp only [RSd.down]
      refine rpartI_loop hk (by omega) 20 n s _ _ H (by omega) fun z3 => ?_
      simp (disch := omega) only [RSd.down, add_i64, show (k : Int) + 1 = ((k + 1 : Nat) : Int) from rfl]
      exact ih (k + 1) _ _ _ _ (by omega) (by omega) (sqI_ok hk 20 H) hQ
    · rw [if_neg (by omega)] at hQ
      simp only [RSd.down]
      exact hQ _ _ _
end
theorem rpart_run {n : Int} (h0 : n ≠ 0) (h1 : -100000 ≤ n) (h2 : n ≤ 100000) : ∃ h', lim otab.get I2 (.fn 18) [.int .i64 n] .empty = some (.tup [.int .i64 (sq n).1, .int .i64 ((sq n).2 : Int)], h') := by
  refine run_of (fn := of18) rfl rfl ?_
  show WK _ _ [] ⟨[.int .i64 n, aundef, aundef, aundef, aundef], .empty⟩ _
  dsimp only [of18]
  simp only [RSd.down]
  refine rpartO_loop 400 2 n 1 _ _ (Nat.le_refl _) rfl (sq_start h0 h1 h2) fun z1 z3 z4 => ?_
  simp only [RSd.down, Ret_ret, result_2]
  rfl
noncomputable def I3 : Oracle := ext I2 18 partS
theorem I3_ok : IOK Go.Proofs.Try.prog I3 := IOK.extL mixed tabOK otabOK I2_ok (g := 18) (fn := af18) rfl fun args av h => by
  unfold partS at h
  split at h
  · split at h
    · rename_i n hn; cases h; exact ⟨rfl, rfl, rpart_run hn.1 hn.2.1 hn.2.2⟩
    · cases h
  · cases h

def mod4S : List AV → Option AV
  | [.int .i64 n] => some (.int .i64 (n % 4))
  | _ => none
theorem mod4_run (n : Int) : ∃ h', lim otab.get I3 (.fn 41) [.int .i64 n] .empty = some (.int .i64 (n % 4), h') := by
  refine run_of (fn := of41) rfl rfl ?_
  show WK _ _ [] ⟨[.int .i64 n, aundef], .empty⟩ _
  dsimp only [of41]
  have e : bin .and .no (.int .i64 n) (.int .i64 3) = some (.int .i64 (n % 4)) := and_i64 3 2 rfl (by decide)
  simp only [RSd.down, e, Ret_ret, result_1]
noncomputable def I4 : Oracle := ext I3 41 mod4S
theorem I4_ok : IOK Go.Proofs.Try.prog I4 := IOK.extL mixed tabOK otabOK I3_ok (g := 41) (fn := af41) rfl fun args av h => by
  unfold mod4S at h
  split at h
  · rename_i n; cases h; exact ⟨rfl, rfl, mod4_run n⟩
  · cases h

def modS : List AV → Option AV
  | [.int .i64 a, .int .i64 m] => if 0 < m ∧ m ≤ 4611686018427387904 then some (.int .i64 (a % m)) else none
  | _ => none
theorem mod_run {a m : Int} (h0 : 0 < m) (h1 : m ≤ 4611686018427387904) : ∃ h', lim otab.get I4 (.fn 36) [.int .i64 a, .int .i64 m] .empty = some (.int .i64 (a % m), h') := by
  refine run_of (fn := of36) rfl rfl ?_
  show WK _ _ [] ⟨[.int .i64 a, .int .i64 m, aundef], .empty⟩ _
  dsimp only [of36]
  have e1 : -m < a.tmod m := by
    have := Int.lt_tmod_of_pos a h0; omega
  have e2 : a.tmod m < m := Int.tmod_lt_of_pos a h0
  have e3 : (a.tmod m + m) % m = a % m := by
    rw [Int.add_emod_right]
    rw [Int.tmod_eq_emod]
    split
    · simp
    · rw [Int.natAbs_of_nonneg (by omega), Int.sub_emod_right, Int.emod_emod]
  have e4 : (a.tmod m + m).tmod m = a % m := by rw [Int.tmod_eq_emod_of_nonneg (by omega), e3]
  simp (disch := omega) only [RSd.down, rem_i64 (show m ≠ 0 by omega), add_i64, Ret_ret, result_1, e4]
noncomputable def I5 : Oracle := ext I4 36 modS
theorem I5_ok : IOK Go.Proofs.Try.prog I5 := IOK.extL mixed tabOK otabOK I4_ok (g := 36) (fn := af36) rfl fun args av h => by
  unfold modS at h
  split at h
  · split at h
    · rename_i hn; cases h; exact ⟨rfl, rfl, mod_run hn.1 hn.2⟩
    · cases h
  · cases h

/-- the bounds of an argument -/
def lg (n : Int) : Int := if n > 100000 ∨ n < -100000 then 4 else 0
def largeS : List AV → Option AV
  | [.int .i64 n] => some (.int .i64 (lg n))
  | _ => none
theorem large_run (n : Int) : ∃ h', lim otab.get I5 (.fn 16) [.int .i64 n] .empty = some (.int .i64 (lg n), h') := by
  refine run_of (fn := of16) rfl rfl ?_
  show WK _ _ [] ⟨[.int .i64 n, aundef], .empty⟩ _
  dsimp only [of16]
  by_cases h1 : 100000 < n
  · simp only [RSd.down, gtr_int, lss_int, h1, decide_true, Ret_ret, result_1, lg, gt_iff_lt, true_or, if_true]
  · by_cases h2 : n < -100000
    · simp only [RSd.down, gtr_int, lss_int, h1, h2, decide_true, decide_false, Ret_ret, result_1, lg, gt_iff_lt, or_true, if_true]
    · simp only [RSd.down, gtr_int, lss_int, h1, h2, decide_false, Ret_ret, result_1, lg, gt_iff_lt, or_self, if_false]
noncomputable def I6 : Oracle := ext I5 16 largeS
theorem I6_ok : IOK Go.Proofs.Try.prog I6 := IOK.extL mixed tabOK otabOK I5_ok (g := 16) (fn := af16) rfl fun args av h => by
  unfold largeS at h
  split at h
  · rename_i n; cases h; exact ⟨rfl, rfl, large_run n⟩
  · cases h
end Go.AM
