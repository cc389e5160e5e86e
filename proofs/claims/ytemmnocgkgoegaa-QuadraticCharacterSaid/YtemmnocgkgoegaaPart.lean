/- The squarefree part: what the program's and the reference's code compute. No condition. -/
import Derived.Test.YtemmnocgkgoegaaBase
import Derived.Test.YtemmnocgkgoegaaOfTab
import Derived.Test.YtemmnocgkgoegaaAm31
import Derived.Test.YtemmnocgkgoegaaSq
set_option maxRecDepth 100000
set_option linter.unusedSimpArgs false
namespace Go.AM
open Go
theorem max_abs (n : Int) : (if -n > n then -n else n) = ((n.natAbs : Nat) : Int) := by
  split <;> omega
section
variable {C : CallT} {K : List Fr} {Q : AX → St → Prop} {h : AHeap}
noncomputable def partI : ACode := match of40.body with | .seq _ (.seq _ (.seq (.seq _ (.block _ (.loop (.seq _ (.seq (.block _ (.block _ (.loop b))) _))))) _)) => b | c => c
noncomputable def partO : ACode := match of40.body with | .seq _ (.seq _ (.seq (.seq _ (.block _ (.loop b))) _)) => b | c => c
theorem partI_loop {k : Nat} (hk : 2 ≤ k) (hk2 : k ≤ 402) : ∀ (f : Nat) (n : Int) (s : Nat) (y3 y4 : AV), SqOK n s → n.natAbs < 4 ^ f →
    (∀ z3 : AV, WX C (.exit 2) K ⟨[.int .i64 (sqI k f n s).1, .int .i64 (k : Int), .int .i64 ((sqI k f n s).2 : Int), z3, y4], h⟩ Q) →
    WK C (.loop partI) K ⟨[.int .i64 n, .int .i64 (k : Int), .int .i64 (s : Int), y3, y4], h⟩ Q
  | 0, n, s, y3, y4, H, hf, hk => by
    have := Int.natAbs_pos.2 H.n0
    omega
  | f + 1, n, s, y3, y4, H, hf, hQ => by
    refine WK_loop' (by dsimp only [partI, of40]) ?_
    have hkk : k * k ≤ 402 * 402 := Nat.mul_le_mul hk2 hk2
    have hkk2 : 2 * 2 ≤ k * k := Nat.mul_le_mul hk hk
    have e1 : (k : Int) * (k : Int) = ((k * k : Nat) : Int) := by rw [Int.natCast_mul]
    have hn := H.ln
    have hs := H.ls
    simp (disch := omega) only [RSd.down, mul_i64, e1, rem_i64, eql_int]
    unfold sqI at hQ
    refine WB_split (fun hd => ?_) (fun hd => ?_)
    · rw [if_pos hd] at hQ
      have hlt := SqOK.less H.n0 hk hd
      have hsk : s * k ≤ 316 * 402 := Nat.mul_le_mul hs hk2
      have e2 : (s : Int) * (k : Int) = ((s * k : Nat) : Int) := by rw [Int.natCast_mul]
      simp (disch := omega) only [RSd.down, mul_i64, e1, quo_i64, e2]
      exact partI_loop hk hk2 f _ _ _ _ (H.step hk hd) (by rw [Nat.pow_succ] at hf; omega) hQ
    · rw [if_neg hd] at hQ
      simp only [RSd.down]
      exact hQ _
theorem partO_loop : ∀ (f k : Nat) (n : Int) (s : Nat) (y3 y4 : AV), 2 ≤ k → k + f = 402 → SqOK n s →
    (∀ z1 z3 z4 : AV, WX C (.exit 0) K ⟨[.int .i64 (sqO f k n s).1, z1, .int .i64 ((sqO f k n s).2 : Int), z3, z4], h⟩ Q) →
    WK C (.loop partO) K ⟨[.int .i64 n, .int .i64 (k : Int), .int .i64 (s : Int), y3, y4], h⟩ Q := by
  intro f
  induction f with
  | zero =>
    intro k n s y3 y4 hk hf H hQ
    refine WK_loop' (by dsimp only [partO, of40]) ?_
    have e1 : (k : Int) * (k : Int) = ((k * k : Nat) : Int) := by rw [Int.natCast_mul]
    have hk2 : k = 402 := by omega
    subst hk2
    have hn := H.ln
    have e2 : decide (((402 * 402 : Nat) : Int) ≤ (n.natAbs : Int)) = false := decide_eq_false (by omega)
    simp (disch := omega) only [RSd.down, mul_i64, e1, neg_i64, max_int, max_abs, leq_int, e2]
    exact hQ _ _ _
  | succ f ih =>
    intro k n s y3 y4 hk hf H hQ
    refine WK_loop' (by dsimp only [partO, of40]) ?_
    have e1 : (k : Int) * (k : Int) = ((k * k : Nat) : Int) := by rw [Int.natCast_mul]
    have hkk : k * k ≤ 402 * 402 := Nat.mul_le_mul (by omega) (by omega)
    have hn := H.ln
    simp (disch := omega) only [RSd.down, mul_i64, e1, neg_i64, max_int, max_abs, leq_int]
    unfold sqO at hQ
    refine WB_split (fun hd => ?_) (fun hd => ?_)
    · rw [if_pos (by omega)] at hQ
      simp only [RSd.down]
      refine partI_loop hk (by omega) 20 n s _ _ H (by omega) fun z3 => ?_
      simp (disch := omega) only [RSd.down, add_i64, show (k : Int) + 1 = ((k + 1 : Nat) : Int) from rfl]
      exact ih (k + 1) _ _ _ _ (by omega) (by omega) (sqI_ok hk 20 H) hQ
    · rw [if_neg (by omega)] at hQ
      simp only [RSd.down]
      exact hQ _ _ _
end
def partS : List AV → Option AV
  | [.int .i64 n] => if n ≠ 0 ∧ -100000 ≤ n ∧ n ≤ 100000 then some (.tup [.int .i64 (sq n).1, .int .i64 ((sq n).2 : Int)]) else none
  | _ => none
theorem partq_run {n : Int} (h0 : n ≠ 0) (h1 : -100000 ≤ n) (h2 : n ≤ 100000) : ∃ h', lim otab.get awakeI (.fn 40) [.int .i64 n] .empty = some (.tup [.int .i64 (sq n).1, .int .i64 ((sq n).2 : Int)], h') := by
  refine run_of (fn := of40) rfl rfl ?_
  show WK _ _ [] ⟨[.int .i64 n, aundef, aundef, aundef, aundef], .empty⟩ _
  dsimp only [of40]
  simp only [RSd.down]
  refine partO_loop 400 2 n 1 _ _ (Nat.le_refl _) rfl (sq_start h0 h1 h2) fun z1 z3 z4 => ?_
  simp only [RSd.down, Ret_ret, result_2]
  rfl
noncomputable def I1 : Oracle := ext awakeI 40 partS
theorem I1_ok : IOK Go.Proofs.Try.prog I1 := IOK.extL mixed tabOK otabOK awakeOK (g := 40) (fn := af40) rfl fun args av h => by
  unfold partS at h
  split at h
  · split at h
    · rename_i n hn; cases h; exact ⟨rfl, rfl, partq_run hn.1 hn.2.1 hn.2.2⟩
    · cases h
  · cases h
end Go.AM
