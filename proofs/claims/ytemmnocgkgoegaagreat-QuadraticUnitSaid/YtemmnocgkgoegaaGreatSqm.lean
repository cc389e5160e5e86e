/- Squarefree parts, discriminants: what the code computes. No condition. -/
import Derived.Test.YtemmnocgkgoegaaGreatAmB
import Derived.Test.YtemmnocgkgoegaaGreatBase
import Derived.Test.YtemmnocgkgoegaaGreatOfTab
set_option maxRecDepth 100000
set_option linter.unusedSimpArgs false
namespace Go.AM
open Go
/-- squares of k are drawn out of n, and gathered in s -/
def sqI (k : Nat) : Nat → Int → Nat → Int × Nat
  | 0, n, s => (n, s)
  | f + 1, n, s => if n.tmod ((k * k : Nat) : Int) = 0 then sqI k f (n.tdiv ((k * k : Nat) : Int)) (s * k) else (n, s)
def sqO : Nat → Nat → Int → Nat → Int × Nat
  | 0, _, n, s => (n, s)
  | f + 1, k, n, s => if k * k ≤ n.natAbs then sqO f (k + 1) (sqI k 20 n s).1 (sqI k 20 n s).2 else (n, s)
def sq (n : Int) : Int × Nat := sqO 400 2 n 1
/-- what stays: no zero, and the bound -/
structure SqOK (n : Int) (s : Nat) : Prop where
  n0 : n ≠ 0
  s0 : 1 ≤ s
  b : s * s * n.natAbs ≤ 100000
theorem SqOK.ls {n : Int} {s : Nat} (h : SqOK n s) : s ≤ 316 := by
  have h1 : 1 ≤ n.natAbs := Int.natAbs_pos.2 h.n0
  have h2 : s * s ≤ s * s * n.natAbs := Nat.le_mul_of_pos_right _ h1
  have h3 := h.b
  rcases Nat.lt_or_ge 316 s with h4 | h4
  · have : 317 * 317 ≤ s * s := Nat.mul_le_mul h4 h4
    omega
  · exact h4
theorem SqOK.ln {n : Int} {s : Nat} (h : SqOK n s) : n.natAbs ≤ 100000 := by
  have h1 := h.s0
  have h2 : 1 * 1 ≤ s * s := Nat.mul_le_mul h1 h1
  have h3 : 1 * n.natAbs ≤ s * s * n.natAbs := Nat.mul_le_mul_right _ h2
  have := h.b
  omega
theorem tdiv_abs {n : Int} {q : Nat} (hd : n.tmod (q : Int) = 0) (_hq : 0 < q) : q * (n.tdiv (q : Int)).natAbs = n.natAbs ∧ n = (q : Int) * n.tdiv (q : Int) := by
  have h := Int.mul_tdiv_add_tmod n (q : Int)
  rw [hd, Int.add_zero] at h
  refine ⟨?_, h.symm⟩
  have := congrArg Int.natAbs h
  rw [Int.natAbs_mul, Int.natAbs_natCast] at this
  exact this
theorem SqOK.step {n : Int} {s : Nat} (h : SqOK n s) {k : Nat} (hk : 2 ≤ k) (hd : n.tmod ((k * k : Nat) : Int) = 0) : SqOK (n.tdiv ((k * k : Nat) : Int)) (s * k) := by
  have hkk : 0 < k * k := Nat.mul_pos (by omega) (by omega)
  obtain ⟨h1, h2⟩ := tdiv_abs hd hkk
  refine ⟨fun e => ?_, Nat.mul_pos h.s0 (by omega), ?_⟩
  · rw [e] at h2; exact h.n0 (by simpa using h2)
  · have : s * k * (s * k) * (n.tdiv ((k * k : Nat) : Int)).natAbs = s * s * (k * k * (n.tdiv ((k * k : Nat) : Int)).natAbs) := by
      simp only [Nat.mul_assoc, Nat.mul_comm, Nat.mul_left_comm]
    rw [this, h1]; exact h.b
theorem SqOK.less {n : Int} (_h0 : n ≠ 0) {k : Nat} (hk : 2 ≤ k) (hd : n.tmod ((k * k : Nat) : Int) = 0) : 4 * (n.tdiv ((k * k : Nat) : Int)).natAbs ≤ n.natAbs := by
  have hkk : 2 * 2 ≤ k * k := Nat.mul_le_mul hk hk
  obtain ⟨h1, _⟩ := tdiv_abs hd (by omega)
  rw [← h1]
  exact Nat.mul_le_mul_right _ (by omega)
theorem sqI_ok {k : Nat} (hk : 2 ≤ k) : ∀ (f : Nat) {n : Int} {s : Nat}, SqOK n s → SqOK (sqI k f n s).1 (sqI k f n s).2
  | 0, n, s, h => h
  | f + 1, n, s, h => by
    unfold sqI
    by_cases hd : n.tmod ((k * k : Nat) : Int) = 0
    · rw [if_pos hd]; exact sqI_ok hk f (h.step hk hd)
    · rw [if_neg hd]; exact h
theorem sqO_ok : ∀ (f k : Nat) {n : Int} {s : Nat}, 2 ≤ k → SqOK n s → SqOK (sqO f k n s).1 (sqO f k n s).2
  | 0, _, _, _, _, h => h
  | f + 1, k, n, s, hk, h => by
    unfold sqO
    by_cases hd : k * k ≤ n.natAbs
    · rw [if_pos hd]; exact sqO_ok f (k + 1) (by omega) (sqI_ok hk 20 h)
    · rw [if_neg hd]; exact h
theorem sq_start {n : Int} (h0 : n ≠ 0) (h1 : -100000 ≤ n) (h2 : n ≤ 100000) : SqOK n 1 := ⟨h0, Nat.le_refl _, by omega⟩
theorem sq_ok {n : Int} (h0 : n ≠ 0) (h1 : -100000 ≤ n) (h2 : n ≤ 100000) : SqOK (sq n).1 (sq n).2 := sqO_ok 400 2 (Nat.le_refl _) (sq_start h0 h1 h2)
/-- s grows only -/
theorem sqI_le {k : Nat} (hk : 2 ≤ k) : ∀ (f : Nat) (n : Int) (s : Nat), s ≤ (sqI k f n s).2
  | 0, n, s => Nat.le_refl _
  | f + 1, n, s => by
    unfold sqI
    by_cases hd : n.tmod ((k * k : Nat) : Int) = 0
    · rw [if_pos hd]
      have h1 : s * 1 ≤ s * k := Nat.mul_le_mul_left _ (by omega)
      have h2 := sqI_le hk f (n.tdiv ((k * k : Nat) : Int)) (s * k)
      omega
    · rw [if_neg hd]; exact Nat.le_refl _
theorem sqO_le : ∀ (f k : Nat) (n : Int) (s : Nat), 2 ≤ k → s ≤ (sqO f k n s).2
  | 0, _, _, _, _ => Nat.le_refl _
  | f + 1, k, n, s, hk => by
    unfold sqO
    by_cases hd : k * k ≤ n.natAbs
    · rw [if_pos hd]; exact Nat.le_trans (sqI_le hk 20 n s) (sqO_le f (k + 1) _ _ (by omega))
    · rw [if_neg hd]; exact Nat.le_refl _
theorem sqI_one {k : Nat} (hk : 2 ≤ k) : ∀ (f : Nat) (n : Int) (s : Nat), 1 ≤ s → (sqI k f n s).2 = 1 → s = 1 ∧ (sqI k f n s).1 = n ∧ (1 ≤ f → n.tmod ((k * k : Nat) : Int) ≠ 0)
  | 0, n, s, _, h => ⟨h, rfl, fun h => by omega⟩
  | f + 1, n, s, hs, h => by
    unfold sqI at h ⊢
    by_cases hd : n.tmod ((k * k : Nat) : Int) = 0
    · rw [if_pos hd] at h
      have h1 := sqI_le hk f (n.tdiv ((k * k : Nat) : Int)) (s * k)
      have h2 : 1 * 2 ≤ s * k := Nat.mul_le_mul hs hk
      omega
    · rw [if_neg hd] at h ⊢
      exact ⟨h, rfl, fun _ => hd⟩
theorem sqO_one : ∀ (f k : Nat) (n : Int) (s : Nat), 2 ≤ k → 1 ≤ s → (sqO f k n s).2 = 1 → s = 1 ∧ (sqO f k n s).1 = n
  | 0, _, _, _, _, _, h => ⟨h, rfl⟩
  | f + 1, k, n, s, hk, hs, h => by
    unfold sqO at h ⊢
    by_cases hd : k * k ≤ n.natAbs
    · rw [if_pos hd] at h ⊢
      have h0 := sqI_le hk 20 n s
      obtain ⟨h1, h2⟩ := sqO_one f (k + 1) _ _ (by omega) (by omega) h
      obtain ⟨h3, h4, _⟩ := sqI_one hk 20 n s hs h1
      exact ⟨h3, by rw [h2, h4]⟩
    · rw [if_neg hd] at h ⊢; exact ⟨h, rfl⟩
/-- a squarefree number is its own part, and no multiple of 4 -/
theorem sq_one {n : Int} (h0 : n ≠ 0) (h : (sq n).2 = 1) : (sq n).1 = n ∧ n % 4 ≠ 0 := by
  obtain ⟨_, h1⟩ := sqO_one 400 2 n 1 (Nat.le_refl _) (Nat.le_refl _) h
  refine ⟨h1, fun h4 => ?_⟩
  unfold sq sqO at h
  have habs : 2 * 2 ≤ n.natAbs := by omega
  rw [if_pos habs] at h
  have h5 := sqI_le (Nat.le_refl 2) 20 n 1
  obtain ⟨h6, _⟩ := sqO_one 399 (2 + 1) _ _ (by omega) (by omega) h
  obtain ⟨_, _, h7⟩ := sqI_one (Nat.le_refl 2) 20 n 1 (Nat.le_refl _) h6
  refine h7 (by omega) ?_
  have : ((2 * 2 : Nat) : Int) = 4 := rfl
  rw [this]
  exact Int.tmod_eq_zero_of_dvd (Int.dvd_of_emod_eq_zero h4)
end Go.AM
namespace Go.AM
open Go
theorem max_abs (n : Int) : (if -n > n then -n else n) = ((n.natAbs : Nat) : Int) := by
  split <;> omega
section
variable {C : CallT} {K : List Fr} {Q : AX → St → Prop} {h : AHeap}
noncomputable def partI : ACode := match of42.body with | .seq _ (.seq _ (.seq (.seq _ (.block _ (.loop (.seq _ (.seq (.block _ (.block _ (.loop b))) _))))) _)) => b | c => c
noncomputable def partO : ACode := match of42.body with | .seq _ (.seq _ (.seq (.seq _ (.block _ (.loop b))) _)) => b | c => c
theorem partI_loop {k : Nat} (hk : 2 ≤ k) (hk2 : k ≤ 402) : ∀ (f : Nat) (n : Int) (s : Nat) (y3 y4 : AV), SqOK n s → n.natAbs < 4 ^ f →
    (∀ z3 : AV, WX C (.exit 2) K ⟨[.int .i64 (sqI k f n s).1, .int .i64 (k : Int), .int .i64 ((sqI k f n s).2 : Int), z3, y4], h⟩ Q) →
    WK C (.loop partI) K ⟨[.int .i64 n, .int .i64 (k : Int), .int .i64 (s : Int), y3, y4], h⟩ Q
  | 0, n, s, y3, y4, H, hf, hk => by
    have := Int.natAbs_pos.2 H.n0
    omega
  | f + 1, n, s, y3, y4, H, hf, hQ => by
    refine WK_loop' (by dsimp only [partI, of42]) ?_
    have hkk : k * k ≤ 402 * 402 := Nat.mul_le_mul hk2 hk2
    have hkk2 : 2 * 2 ≤ k * k := Nat.mul_le_mul hk hk
    have e1 : (k : Int) * (k : Int) = ((k * k : Nat) : Int) := by rw [Int.natCast_mul]
    have hn := H.ln
    have hs := H.ls
    simp (disch := omega) only [RSd.down, mul_i64, e1, rem_i64, eql_int]
    unfold sqI at hQ
    refine WB_split (fun hd => ?_) (fun hd => ?_)
    · rw [if_pos hd] at hQ
      have hlt := SqOK.less H.n0 hk hd
      have hsk : s * k ≤ 316 * 402 := Nat.mul_le_mul hs hk2
      have e2 : (s : Int) * (k : Int) = ((s * k : Nat) : Int) := by rw [Int.natCast_mul]
      simp (disch := omega) only [RSd.down, mul_i64, e1, quo_i64, e2]
      exact partI_loop hk hk2 f _ _ _ _ (H.step hk hd) (by rw [Nat.pow_succ] at hf; omega) hQ
    · rw [if_neg hd] at hQ
      simp only [RSd.down]
      exact hQ _
theorem partO_loop : ∀ (f k : Nat) (n : Int) (s : Nat) (y3 y4 : AV), 2 ≤ k → k + f = 402 → SqOK n s →
    (∀ z1 z3 z4 : AV, WX C (.exit 0) K ⟨[.int .i64 (sqO f k n s).1, z1, .int .i64 ((sqO f k n s).2 : Int), z3, z4], h⟩ Q) →
    WK C (.loop partO) K ⟨[.int .i64 n, .int .i64 (k : Int), .int .i64 (s : Int), y3, y4], h⟩ Q := by
  intro f
  induction f with
  | zero =>
    intro k n s y3 y4 hk hf H hQ
    refine WK_loop' (by dsimp only [partO, of42]) ?_
    have e1 : (k : Int) * (k : Int) = ((k * k : Nat) : Int) := by rw [Int.natCast_mul]
    have hk2 : k = 402 := by omega
    subst hk2
    have hn := H.ln
    have e2 : decide (((402 * 402 : Nat) : Int) ≤ (n.natAbs : Int)) = false := decide_eq_false (by omega)
    simp (disch := omega) only [RSd.down, mul_i64, e1, neg_i64, max_int, max_abs, leq_int, e2]
    exact hQ _ _ _
  | succ f ih =>
    intro k n s y3 y4 hk hf H hQ
    refine WK_loop' (by dsimp only [partO, of42]) ?_
    have e1 : (k : Int) * (k : Int) = ((k * k : Nat) : Int) := by rw [Int.natCast_mul]
    have hkk : k * k ≤ 402 * 402 := Nat.mul_le_mul (by omega) (by omega)
    have hn := H.ln
    simp (disch := omega) only [RSd.down, mul_i64, e1, neg_i64, max_int, max_abs, leq_int]
    unfold sqO at hQ
    refine WB_split (fun hd => ?_) (fun hd => ?_)
    · rw [if_pos (by omega)] at hQ
      simp only [RSd.down]
      refine partI_loop hk (by omega) 20 n s _ _ H (by omega) fun z3 => ?_
      simp (disch := omega) only [RSd.down, add_i64, show (k : Int) + 1 = ((k + 1 : Nat) : Int) from rfl]
      exact ih (k + 1) _ _ _ _ (by omega) (by omega) (sqI_ok hk 20 H) hQ
    · rw [if_neg (by omega)] at hQ
      simp only [RSd.down]
      exact hQ _ _ _
end
def partS : List AV → Option AV
  | [.int .i64 n] => if n ≠ 0 ∧ -100000 ≤ n ∧ n ≤ 100000 then some (.tup [.int .i64 (sq n).1, .int .i64 ((sq n).2 : Int)]) else none
  | _ => none
theorem partq_run {n : Int} (h0 : n ≠ 0) (h1 : -100000 ≤ n) (h2 : n ≤ 100000) : ∃ h', lim otab.get awakeI (.fn 42) [.int .i64 n] .empty = some (.tup [.int .i64 (sq n).1, .int .i64 ((sq n).2 : Int)], h') := by
  refine run_of (fn := of42) rfl rfl ?_
  show WK _ _ [] ⟨[.int .i64 n, aundef, aundef, aundef, aundef], .empty⟩ _
  dsimp only [of42]
  simp only [RSd.down]
  refine partO_loop 400 2 n 1 _ _ (Nat.le_refl _) rfl (sq_start h0 h1 h2) fun z1 z3 z4 => ?_
  simp only [RSd.down, Ret_ret, result_2]
  rfl
noncomputable def I1 : Oracle := ext awakeI 42 partS
theorem I1_ok : IOK Go.Proofs.Tryz.prog I1 := IOK.extL mixed tabOK otabOK awakeOK (g := 42) (fn := af42) rfl fun args av h => by
  unfold partS at h
  split at h
  · split at h
    · rename_i n hn; cases h; exact ⟨rfl, rfl, partq_run hn.1 hn.2.1 hn.2.2⟩
    · cases h
  · cases h
end Go.AM
namespace Go.AM
open Go
/-- an integer within the machine's bounds, with room -/
def small (n : Int) : Prop := -4611686018427387904 ≤ n ∧ n ≤ 4611686018427387904
instance (n : Int) : Decidable (small n) := by unfold small; infer_instance

def absS : List AV → Option AV
  | [.int .i64 n] => if small n then some (.int .i64 (n.natAbs : Int)) else none
  | _ => none
theorem abs_run {n : Int} (h : small n) : ∃ h', lim otab.get I1 (.fn 41) [.int .i64 n] .empty = some (.int .i64 (n.natAbs : Int), h') := by
  refine run_of (fn := of41) rfl rfl ?_
  show WK _ _ [] ⟨[.int .i64 n, aundef], .empty⟩ _
  dsimp only [of41]
  unfold small at h
  simp (disch := omega) only [RSd.down, neg_i64, max_int, max_abs, Ret_ret, result_1]
noncomputable def I2 : Oracle := ext I1 41 absS
theorem I2_ok : IOK Go.Proofs.Tryz.prog I2 := IOK.extL mixed tabOK otabOK I1_ok (g := 41) (fn := af41) rfl fun args av h => by
  unfold absS at h
  split at h
  · split at h
    · rename_i n hn; cases h; exact ⟨rfl, rfl, abs_run hn⟩
    · cases h
  · cases h

section
variable {K : List Fr} {Q : AX → St → Prop} {h : AHeap}
theorem c_abs2 {n : Int} (hn : small n) : lim otab.get I2 (.fn 41) [.int .i64 n] h = some (.int .i64 (n.natAbs : Int), h) :=
  lim_oracle (or_hit (spec := absS) (if_pos hn))
noncomputable def rpartI : ACode := match of15.body with | .seq _ (.seq _ (.seq (.seq _ (.block _ (.loop (.seq _ (.seq (.block _ (.block _ (.loop b))) _))))) _)) => b | c => c
noncomputable def rpartO : ACode := match of15.body with | .seq _ (.seq _ (.seq (.seq _ (.block _ (.loop b))) _)) => b | c => c
theorem rpartI_loop {k : Nat} (hk : 2 ≤ k) (hk2 : k ≤ 402) : ∀ (f : Nat) (n : Int) (s : Nat) (y3 y4 : AV), SqOK n s → n.natAbs < 4 ^ f →
    (∀ z3 : AV, WX (lim otab.get I2) (.exit 2) K ⟨[.int .i64 (k : Int), .int .i64 (sqI k f n s).1, .int .i64 ((sqI k f n s).2 : Int), z3, y4], h⟩ Q) →
    WK (lim otab.get I2) (.loop rpartI) K ⟨[.int .i64 (k : Int), .int .i64 n, .int .i64 (s : Int), y3, y4], h⟩ Q
  | 0, n, s, y3, y4, H, hf, hk => by
    have := Int.natAbs_pos.2 H.n0
    omega
  | f + 1, n, s, y3, y4, H, hf, hQ => by
    refine WK_loop' (by dsimp only [rpartI, of15]) ?_
    have hkk : k * k ≤ 402 * 402 := Nat.mul_le_mul hk2 hk2
    have hkk2 : 2 * 2 ≤ k * k := Nat.mul_le_mul hk hk
    have e1 : (k : Int) * (k : Int) = ((k * k : Nat) : Int) := by rw [Int.natCast_mul]
    have hn := H.ln
    have hs := H.ls
    simp (disch := omega) only [RSd.down, mul_i64, e1, rem_i64, eql_int]
    unfold sqI at hQ
    refine WB_split (fun hd => ?_) (fun hd => ?_)
    · rw [if_pos hd] at hQ
      have hlt := SqOK.less H.n0 hk hd
      have hsk : s * k ≤ 316 * 402 := Nat.mul_le_mul hs hk2
      have e2 : (s : Int) * (k : Int) = ((s * k : Nat) : Int) := by rw [Int.natCast_mul]
      simp (disch := omega) only [RSd.down, mul_i64, e1, quo_i64, e2]
      exact rpartI_loop hk hk2 f _ _ _ _ (H.step hk hd) (by rw [Nat.pow_succ] at hf; omega) hQ
    · rw [if_neg hd] at hQ
      simp only [RSd.down]
      exact hQ _
theorem rpartO_loop : ∀ (f k : Nat) (n : Int) (s : Nat) (y3 y4 : AV), 2 ≤ k → k + f = 402 → SqOK n s →
    (∀ z1 z3 z4 : AV, WX (lim otab.get I2) (.exit 0) K ⟨[z1, .int .i64 (sqO f k n s).1, .int .i64 ((sqO f k n s).2 : Int), z3, z4], h⟩ Q) →
    WK (lim otab.get I2) (.loop rpartO) K ⟨[.int .i64 (k : Int), .int .i64 n, .int .i64 (s : Int), y3, y4], h⟩ Q := by
  intro f
  induction f with
  | zero =>
    intro k n s y3 y4 hk hf H hQ
    refine WK_loop' (by dsimp only [rpartO, of15]) ?_
    have e1 : (k : Int) * (k : Int) = ((k * k : Nat) : Int) := by rw [Int.natCast_mul]
    have hk2 : k = 402 := by omega
    subst hk2
    have hn := H.ln
    have hsm : small n := by unfold small; omega
    have e2 : decide (((402 * 402 : Nat) : Int) ≤ (n.natAbs : Int)) = false := decide_eq_false (by omega)
    simp (disch := omega) only [RSd.down, mul_i64, e1, c_abs2 hsm, leq_int, e2]
    exact hQ _ _ _
  | succ f ih =>
    intro k n s y3 y4 hk hf H hQ
    refine WK_loop' (by dsimp only [rpartO, of15]) ?_
    have e1 : (k : Int) * (k : Int) = ((k * k : Nat) : Int) := by rw [Int.natCast_mul]
    have hkk : k * k ≤ 402 * 402 := Nat.mul_le_mul (by omega) (by omega)
    have hn := H.ln
    have hsm : small n := by unfold small; omega
    simp (disch := omega) only [RSd.down, mul_i64, e1, c_abs2 hsm, leq_int]
    unfold sqO at hQ
    refine WB_split (fun hd => ?_) (fun hd => ?_)
    · rw [if_pos (by omega)] at hQ
      simp only [RSd.down]
      refine rpartI_loop hk (by omega) 20 n s _ _ H (by omega) fun z3 => ?_
      simp (disch := omega) only [RSd.down, add_i64, show (k : Int) + 1 = ((k + 1 : Nat) : Int) from rfl]
      exact ih (k + 1) _ _ _ _ (by omega) (by omega) (sqI_ok hk 20 H) hQ
    · rw [if_neg (by omega)] at hQ
      simp only [RSd.down]
      exact hQ _ _ _
end
theorem rpart_run {n : Int} (h0 : n ≠ 0) (h1 : -100000 ≤ n) (h2 : n ≤ 100000) : ∃ h', lim otab.get I2 (.fn 15) [.int .i64 n] .empty = some (.tup [.int .i64 (sq n).1, .int .i64 ((sq n).2 : Int)], h') := by
  refine run_of (fn := of15) rfl rfl ?_
  show WK _ _ [] ⟨[.int .i64 n, aundef, aundef, aundef, aundef], .empty⟩ _
  dsimp only [of15]
  simp only [RSd.down]
  refine rpartO_loop 400 2 n 1 _ _ (Nat.le_refl _) rfl (sq_start h0 h1 h2) fun z1 z3 z4 => ?_
  simp only [RSd.down, Ret_ret, result_2]
  rfl
noncomputable def I3 : Oracle := ext I2 15 partS
theorem I3_ok : IOK Go.Proofs.Tryz.prog I3 := IOK.extL mixed tabOK otabOK I2_ok (g := 15) (fn := af15) rfl fun args av h => by
  unfold partS at h
  split at h
  · split at h
    · rename_i n hn; cases h; exact ⟨rfl, rfl, rpart_run hn.1 hn.2.1 hn.2.2⟩
    · cases h
  · cases h

def mod4S : List AV → Option AV
  | [.int .i64 n] => some (.int .i64 (n % 4))
  | _ => none
theorem mod4_run (n : Int) : ∃ h', lim otab.get I3 (.fn 43) [.int .i64 n] .empty = some (.int .i64 (n % 4), h') := by
  refine run_of (fn := of43) rfl rfl ?_
  show WK _ _ [] ⟨[.int .i64 n, aundef], .empty⟩ _
  dsimp only [of43]
  have e : bin .and .no (.int .i64 n) (.int .i64 3) = some (.int .i64 (n % 4)) := and_i64 3 2 rfl (by decide)
  simp only [RSd.down, e, Ret_ret, result_1]
noncomputable def I4 : Oracle := ext I3 43 mod4S
theorem I4_ok : IOK Go.Proofs.Tryz.prog I4 := IOK.extL mixed tabOK otabOK I3_ok (g := 43) (fn := af43) rfl fun args av h => by
  unfold mod4S at h
  split at h
  · rename_i n; cases h; exact ⟨rfl, rfl, mod4_run n⟩
  · cases h

def modS : List AV → Option AV
  | [.int .i64 a, .int .i64 m] => if 0 < m ∧ m ≤ 4611686018427387904 then some (.int .i64 (a % m)) else none
  | _ => none
theorem mod_run {a m : Int} (h0 : 0 < m) (h1 : m ≤ 4611686018427387904) : ∃ h', lim otab.get I4 (.fn 16) [.int .i64 a, .int .i64 m] .empty = some (.int .i64 (a % m), h') := by
  refine run_of (fn := of16) rfl rfl ?_
  show WK _ _ [] ⟨[.int .i64 a, .int .i64 m, aundef], .empty⟩ _
  dsimp only [of16]
  have e1 : -m < a.tmod m := by
    have := Int.lt_tmod_of_pos a h0; omega
  have e2 : a.tmod m < m := Int.tmod_lt_of_pos a h0
  have e3 : (a.tmod m + m) % m = a % m := by
    rw [Int.add_emod_right]
    rw [Int.tmod_eq_emod]
    split
    · simp
    · rw [Int.natAbs_of_nonneg (by omega), Int.sub_emod_right, Int.emod_emod]
  have e4 : (a.tmod m + m).tmod m = a % m := by rw [Int.tmod_eq_emod_of_nonneg (by omega), e3]
  simp (disch := omega) only [RSd.down, rem_i64 (show m ≠ 0 by omega), add_i64, Ret_ret, result_1, e4]
noncomputable def I5 : Oracle := ext I4 16 modS
theorem I5_ok : IOK Go.Proofs.Tryz.prog I5 := IOK.extL mixed tabOK otabOK I4_ok (g := 16) (fn := af16) rfl fun args av h => by
  unfold modS at h
  split at h
  · split at h
    · rename_i hn; cases h; exact ⟨rfl, rfl, mod_run hn.1 hn.2⟩
    · cases h
  · cases h

/-- the bounds of an argument -/
def lg (n : Int) : Int := if n > 100000 ∨ n < -100000 then 4 else 0
def largeS : List AV → Option AV
  | [.int .i64 n] => some (.int .i64 (lg n))
  | _ => none
theorem large_run (n : Int) : ∃ h', lim otab.get I5 (.fn 14) [.int .i64 n] .empty = some (.int .i64 (lg n), h') := by
  refine run_of (fn := of14) rfl rfl ?_
  show WK _ _ [] ⟨[.int .i64 n, aundef], .empty⟩ _
  dsimp only [of14]
  by_cases h1 : 100000 < n
  · simp only [RSd.down, gtr_int, lss_int, h1, decide_true, Ret_ret, result_1, lg, gt_iff_lt, true_or, if_true]
  · by_cases h2 : n < -100000
    · simp only [RSd.down, gtr_int, lss_int, h1, h2, decide_true, decide_false, Ret_ret, result_1, lg, gt_iff_lt, or_true, if_true]
    · simp only [RSd.down, gtr_int, lss_int, h1, h2, decide_false, Ret_ret, result_1, lg, gt_iff_lt, or_self, if_false]
noncomputable def I6 : Oracle := ext I5 14 largeS
theorem I6_ok : IOK Go.Proofs.Tryz.prog I6 := IOK.extL mixed tabOK otabOK I5_ok (g := 14) (fn := af14) rfl fun args av h => by
  unfold largeS at h
  split at h
  · rename_i n; cases h; exact ⟨rfl, rfl, large_run n⟩
  · cases h
end Go.AM
namespace Go.AM
open Go
def RetH (rs : List ARes) (av : AV) (h : AHeap) (x : AX) (s : St) : Prop := (∀ i, x ≠ .exit i) ∧ result rs s.tm s.h = some av ∧ s.h = h
theorem RetH_ret {rs : List ARes} {av : AV} {h : AHeap} {s : St} : RetH rs av h .ret s ↔ result rs s.tm s.h = some av ∧ s.h = h := ⟨fun h => h.2, fun h => ⟨(fun i hi => by cases hi), h⟩⟩
theorem runH {T : FnTab} {I : Oracle} {f : Nat} {fn : AFn} (hT : T f = some fn) {a : List AV} {h h' : AHeap} {av : AV} (hI : I f a h = none)
    (hw : WK (lim T I) fn.body [] ⟨a ++ List.replicate (fn.nt - a.length) aundef, h⟩ (RetH fn.res av h')) : lim T I (.fn f) a h = some (av, h') := lim_walk hT hI hw
theorem bslice2 {tm : List AV} {h : AHeap} {z z' : AV} {x y : AOpd} {v w : AV} (hx : ev tm x = v) (hy : ev tm y = w) (hv : v.scalar = true) (hw : w.scalar = true) : evalA (.bslice 2 1 [z, z'] [(0, x), (1, y)]) tm h = some (.cells [v, w] true, .slice h.next 0 2 (.exact 2)) := by
  have hc : v.cells = [v] := by cases v <;> simp_all [AV.cells, AV.scalar]
  have hd : w.cells = [w] := by cases w <;> simp_all [AV.cells, AV.scalar]
  simp only [evalA, fillsS, hx, hy, hc, hd]
  rfl
theorem bslice3 {tm : List AV} {h : AHeap} {z z' z'' : AV} {x y u : AOpd} {v w q : AV} (hx : ev tm x = v) (hy : ev tm y = w) (hu : ev tm u = q) (hv : v.scalar = true) (hw : w.scalar = true) (hq : q.scalar = true) : evalA (.bslice 3 1 [z, z', z''] [(0, x), (1, y), (2, u)]) tm h = some (.cells [v, w, q] true, .slice h.next 0 3 (.exact 3)) := by
  have hc : v.cells = [v] := by cases v <;> simp_all [AV.cells, AV.scalar]
  have hd : w.cells = [w] := by cases w <;> simp_all [AV.cells, AV.scalar]
  have he : q.cells = [q] := by cases q <;> simp_all [AV.cells, AV.scalar]
  simp only [evalA, fillsS, hx, hy, hu, hc, hd, he]
  rfl

def bd : List Int → Int
  | [] => 0
  | x :: r => if lg x = 0 then bd r else 4
theorem lg_cases (n : Int) : (lg n = 0 ∧ -100000 ≤ n ∧ n ≤ 100000) ∨ (lg n = 4 ∧ (n > 100000 ∨ n < -100000)) := by
  unfold lg
  by_cases h : n > 100000 ∨ n < -100000
  · rw [if_pos h]; exact .inr ⟨rfl, h⟩
  · rw [if_neg h]; exact .inl ⟨rfl, by omega, by omega⟩
theorem bd_one (n : Int) : bd [n] = lg n := by
  rcases lg_cases n with ⟨h, _⟩ | ⟨h, _⟩ <;> simp [bd, h]
noncomputable def boundB : ACode := match of26.body with | .seq _ (.seq (.seq _ (.block _ (.loop b))) _) => b | c => c
section
variable {C : CallT} {K : List Fr} {Q : AX → St → Prop} {h : AHeap}
theorem bound_loop {i : Nat} {cap : ACap} {l : List Int} (hc : cellsOf h i = some (l.map (AV.int .i64))) (hn : l.length ≤ 1000) : ∀ (r : Nat) (k : Nat) (y2 y3 : AV), k + r = l.length →
    (bd (l.drop k) = 0 → ∀ z1 z2 z3 : AV, WX C (.exit 0) K ⟨[.slice i 0 l.length cap, z1, z2, z3, .int .i64 (l.length : Int)], h⟩ Q) →
    (bd (l.drop k) = 4 → ∀ z2 z3 : AV, WX C .ret K ⟨[.slice i 0 l.length cap, .int .i64 4, z2, z3, .int .i64 (l.length : Int)], h⟩ Q) →
    WK C (.loop boundB) K ⟨[.slice i 0 l.length cap, .int .i64 (k : Int), y2, y3, .int .i64 (l.length : Int)], h⟩ Q
  | 0, k, y2, y3, hk, h0, h4 => by
    refine WK_loop' (by dsimp only [boundB, of26]) ?_
    have e : ¬ ((k : Int) < (l.length : Int)) := by omega
    simp only [RSd.down, lss_int, e, decide_false]
    refine h0 ?_ _ _ _
    rw [List.drop_of_length_le (by omega)]; rfl
  | r + 1, k, y2, y3, hk, h0, h4 => by
    refine WK_loop' (by dsimp only [boundB, of26]) ?_
    have e : (k : Int) < (l.length : Int) := by omega
    have hlt : k < l.length := by omega
    have hx : (l.map (AV.int .i64))[0 + k * 1]? = some (.int .i64 l[k]) := by
      rw [Nat.zero_add, Nat.mul_one, List.getElem?_map, List.getElem?_eq_getElem hlt]; rfl
    have hd : l.drop k = l[k] :: l.drop (k + 1) := List.drop_eq_getElem_cons hlt
    rw [hd] at h0 h4
    generalize l[k] = x at hx h0 h4
    have hgo : lg x = 0 → ∀ z2 z3 : AV, WX C .normal [] ⟨[], h⟩ (fun _ _ => True) ∧ WK C (.loop boundB) K ⟨[.slice i 0 l.length cap, .int .i64 ((k + 1 : Nat) : Int), z2, z3, .int .i64 (l.length : Int)], h⟩ Q := by
      intro hl z2 z3
      refine ⟨WX_nil.2 trivial, bound_loop hc hn r (k + 1) z2 z3 (by omega) (fun hb => h0 ?_) (fun hb => h4 ?_)⟩
      · simp [bd, hl, hb]
      · simp [bd, hl, hb]
    by_cases h1 : 100000 < x
    · have hl : lg x = 4 := by unfold lg; rw [if_pos (.inl h1)]
      simp (disch := omega) only [RSd.down, lss_int, gtr_int, e, decide_true, iaddrV_ok, loadV_at hc hx, h1]
      exact h4 (by simp [bd, hl]) _ _
    · by_cases h2 : x < -100000
      · have hl : lg x = 4 := by unfold lg; rw [if_pos (.inr h2)]
        simp (disch := omega) only [RSd.down, lss_int, gtr_int, e, decide_true, decide_false, iaddrV_ok, loadV_at hc hx, h1, h2]
        exact h4 (by simp [bd, hl]) _ _
      · have hl : lg x = 0 := by unfold lg; rw [if_neg (by omega)]
        simp (disch := omega) only [RSd.down, lss_int, gtr_int, e, decide_true, decide_false, iaddrV_ok, loadV_at hc hx, h1, h2, add_i64, show (k : Int) + 1 = ((k + 1 : Nat) : Int) from rfl]
        exact (hgo hl _ _).2
end
theorem bd_cases : ∀ l : List Int, bd l = 0 ∨ bd l = 4
  | [] => .inl rfl
  | x :: r => by
    unfold bd
    by_cases h : lg x = 0
    · rw [if_pos h]; exact bd_cases r
    · rw [if_neg h]; exact .inr rfl
theorem bounded_spec {I : Oracle} (hI : ∀ a h, I 26 a h = none) {h : AHeap} {i : Nat} {cap : ACap} {l : List Int} (hc : cellsOf h i = some (l.map (AV.int .i64))) (hn : l.length ≤ 1000) : lim otab.get I (.fn 26) [.slice i 0 l.length cap] h = some (.int .i64 (bd l), h) := by
  refine runH (fn := of26) rfl (hI _ _) ?_
  show WK _ _ [] ⟨[.slice i 0 l.length cap, aundef, aundef, aundef, aundef], h⟩ _
  dsimp only [of26]
  simp only [RSd.down, AM.lenV]
  refine bound_loop hc hn l.length 0 _ _ (by omega) (fun hb z1 z2 z3 => ?_) (fun hb z2 z3 => ?_)
  · simp only [RSd.down, RetH_ret, result_1]
    rw [List.drop_zero] at hb
    rw [hb]; exact ⟨rfl, trivial⟩
  · simp only [RSd.down, RetH_ret, result_1]
    rw [List.drop_zero] at hb
    rw [hb]; exact ⟨rfl, trivial⟩
theorem bounded_1 {I : Oracle} (hI : ∀ a h, I 26 a h = none) {h : AHeap} {n : Int} : lim otab.get I (.fn 26) [.slice h.next 0 1 (.exact 1)] (h.push (.cells [.int .i64 n] true)) = some (.int .i64 (lg n), h.push (.cells [.int .i64 n] true)) := by
  rw [← bd_one n]
  exact bounded_spec hI (l := [n]) cellsOf_push (by simp)
theorem bounded_2 {I : Oracle} (hI : ∀ a h, I 26 a h = none) {h : AHeap} {n m : Int} : lim otab.get I (.fn 26) [.slice h.next 0 2 (.exact 2)] (h.push (.cells [.int .i64 n, .int .i64 m] true)) = some (.int .i64 (bd [n, m]), h.push (.cells [.int .i64 n, .int .i64 m] true)) :=
  bounded_spec hI (l := [n, m]) cellsOf_push (by simp)
theorem bounded_3 {I : Oracle} (hI : ∀ a h, I 26 a h = none) {h : AHeap} {n m q : Int} : lim otab.get I (.fn 26) [.slice h.next 0 3 (.exact 3)] (h.push (.cells [.int .i64 n, .int .i64 m, .int .i64 q] true)) = some (.int .i64 (bd [n, m, q]), h.push (.cells [.int .i64 n, .int .i64 m, .int .i64 q] true)) :=
  bounded_spec hI (l := [n, m, q]) cellsOf_push (by simp)

theorem bounded_1e {I : Oracle} (hI : ∀ a h, I 26 a h = none) {n : Int} : lim otab.get I (.fn 26) [.slice 0 0 1 (.exact 1)] (AHeap.empty.push (.cells [.int .i64 n] true)) = some (.int .i64 (lg n), AHeap.empty.push (.cells [.int .i64 n] true)) := bounded_1 hI (h := .empty)
theorem bounded_2e {I : Oracle} (hI : ∀ a h, I 26 a h = none) {n m : Int} : lim otab.get I (.fn 26) [.slice 0 0 2 (.exact 2)] (AHeap.empty.push (.cells [.int .i64 n, .int .i64 m] true)) = some (.int .i64 (bd [n, m]), AHeap.empty.push (.cells [.int .i64 n, .int .i64 m] true)) := bounded_2 hI (h := .empty)
theorem bounded_3e {I : Oracle} (hI : ∀ a h, I 26 a h = none) {n m q : Int} : lim otab.get I (.fn 26) [.slice 0 0 3 (.exact 3)] (AHeap.empty.push (.cells [.int .i64 n, .int .i64 m, .int .i64 q] true)) = some (.int .i64 (bd [n, m, q]), AHeap.empty.push (.cells [.int .i64 n, .int .i64 m, .int .i64 q] true)) := bounded_3 hI (h := .empty)
/-- SquarefreePart -/
def sfp (n : Int) : AV := if lg n = 0 then (if n = 0 then .tup [.int .i64 0, .int .i64 0, .int .i64 6] else .tup [.int .i64 (sq n).1, .int .i64 ((sq n).2 : Int), .int .i64 0]) else .tup [.int .i64 0, .int .i64 0, .int .i64 4]
def sfpS : List AV → Option AV
  | [.int .i64 n] => some (sfp n)
  | _ => none
theorem c_part6 {n : Int} {h : AHeap} (h0 : n ≠ 0) (h1 : -100000 ≤ n) (h2 : n ≤ 100000) : lim otab.get I6 (.fn 42) [.int .i64 n] h = some (.tup [.int .i64 (sq n).1, .int .i64 ((sq n).2 : Int)], h) :=
  lim_oracle (or_hit (spec := partS) (if_pos ⟨h0, h1, h2⟩))
theorem sfp_run (n : Int) : ∃ h', lim otab.get I6 (.fn 17) [.int .i64 n] .empty = some (sfp n, h') := by
  refine run_of (fn := of17) rfl rfl ?_
  show WK _ _ [] ⟨[.int .i64 n, aundef, aundef, aundef], .empty⟩ _
  dsimp only [of17]
  have hI : ∀ a h, I6 26 a h = none := fun _ _ => rfl
  simp only [RSd.down]
  rw [bslice1 (v := .int .i64 n) rfl rfl]
  simp only [RSd.down, bounded_1e hI, eql_int]
  unfold sfp
  rcases lg_cases n with ⟨hl, hb1, hb2⟩ | ⟨hl, hb⟩
  · by_cases h0 : n = 0
    · subst h0
      simp only [hl, RSd.down, eql_int, neq_int, decide_true, decide_false, Ret_ret, result_3, if_true, ne_eq, not_false_eq_true, show ((6 : Int) = 0) = False from by simp]
    · simp only [hl, h0, RSd.down, eql_int, neq_int, decide_true, decide_false, c_part6 h0 hb1 hb2, Ret_ret, result_3, if_true, if_false, ne_eq, not_true_eq_false]
  · simp only [hl, RSd.down, eql_int, neq_int, decide_true, decide_false, Ret_ret, result_3, if_false, ne_eq, not_false_eq_true, show ((4 : Int) = 0) = False from by simp]
noncomputable def I7 : Oracle := ext I6 17 sfpS
theorem I7_ok : IOK Go.Proofs.Tryz.prog I7 := IOK.extL mixed tabOK otabOK I6_ok (g := 17) (fn := af17) rfl fun args av h => by
  unfold sfpS at h
  split at h
  · rename_i n
    cases h
    refine ⟨rfl, ?_, sfp_run n⟩
    unfold sfp; split
    · split <;> rfl
    · rfl
  · cases h
end Go.AM
namespace Go.AM
open Go
def fundP (d : Int) : Prop := d ≠ 0 ∧ d ≠ 1 ∧ ((d % 4 = 1 ∧ (sq d).2 = 1) ∨ (d % 4 = 0 ∧ (sq (d / 4)).2 = 1 ∧ 1 < d / 4 % 4))
instance (d : Int) : Decidable (fundP d) := by unfold fundP; infer_instance
theorem quo4 {e : EqK} {d : Int} (h : d % 4 = 0) (h1 : -100000 ≤ d) (h2 : d ≤ 100000) : bin .quo e (.int .i64 d) (.int .i64 4) = some (.int .i64 (d / 4)) := by
  have hd : d.tdiv 4 = d / 4 := Int.tdiv_eq_ediv_of_dvd (Int.dvd_of_emod_eq_zero h)
  rw [quo_i64 (by decide) (by rw [hd]; omega) (by rw [hd]; omega), hd]
theorem ext_hit {I : Oracle} {g : Nat} {spec : List AV → Option AV} {args : List AV} {av : AV} {h : AHeap} (hs : spec args = some av) : ext I g spec g args h = some (av, h) := by
  have hb : Nat.beq g g = true := Nat.beq_refl g
  unfold ext; rw [hb, hs]; rfl
theorem modS4 {n : Int} : modS [.int .i64 n, .int .i64 4] = some (.int .i64 (n % 4)) := by simp [modS]
theorem sq_cast (n : Int) : (((sq n).2 : Nat) : Int) = 1 ↔ (sq n).2 = 1 := by omega
section
variable {h : AHeap}
theorem c_part7 {n : Int} (h0 : n ≠ 0) (h1 : -100000 ≤ n) (h2 : n ≤ 100000) : lim otab.get I7 (.fn 42) [.int .i64 n] h = some (.tup [.int .i64 (sq n).1, .int .i64 ((sq n).2 : Int)], h) :=
  lim_oracle (or_hit (spec := partS) (if_pos ⟨h0, h1, h2⟩))
theorem c_mod4_7 {n : Int} : lim otab.get I7 (.fn 43) [.int .i64 n] h = some (.int .i64 (n % 4), h) :=
  lim_oracle rfl
end
def fundS : List AV → Option AV
  | [.int .i64 d] => if -100000 ≤ d ∧ d ≤ 100000 then some (.bool (decide (fundP d))) else none
  | _ => none
theorem fund_run {d : Int} (h1 : -100000 ≤ d) (h2 : d ≤ 100000) : ∃ h', lim otab.get I7 (.fn 27) [.int .i64 d] .empty = some (.bool (decide (fundP d)), h') := by
  refine run_of (fn := of27) rfl rfl ?_
  show WK _ _ [] ⟨[.int .i64 d, aundef, aundef], .empty⟩ _
  dsimp only [of27]
  by_cases e0 : d = 0
  · subst e0
    simp only [RSd.down, eql_int, decide_true, Ret_ret, result_1]; rfl
  by_cases e1 : d = 1
  · subst e1
    simp only [RSd.down, eql_int, decide_true, decide_false, Ret_ret, result_1, show ((1 : Int) = 0) = False from by simp]
    rw [decide_eq_false (show ¬ fundP 1 from fun h => h.2.1 rfl)]
  by_cases e2 : d % 4 = 1
  · simp only [RSd.down, eql_int, e0, e1, e2, decide_true, decide_false, c_mod4_7, c_part7 e0 h1 h2, Ret_ret, result_1]
    have : fundP d ↔ ((sq d).2 : Int) = 1 := by unfold fundP; rw [sq_cast]; omega
    rw [decide_eq_decide.2 this]
  by_cases e3 : d % 4 = 0
  · have m0 : d / 4 ≠ 0 := by omega
    simp only [RSd.down, eql_int, neq_int, e0, e1, e2, e3, decide_true, decide_false, c_mod4_7, ne_eq, not_true_eq_false, quo4 e3 h1 h2, c_part7 m0 (show -100000 ≤ d / 4 by omega) (show d / 4 ≤ 100000 by omega), show ((0 : Int) = 1) = False from by simp]
    by_cases e4 : (sq (d / 4)).2 = 1
    · have e4' : (((sq (d / 4)).2 : Nat) : Int) = 1 := by omega
      simp only [RSd.down, e4', decide_true, gtr_int, c_mod4_7, Ret_ret, result_1]
      have : fundP d ↔ 1 < d / 4 % 4 := by unfold fundP; omega
      rw [decide_eq_decide.2 this]
    · have e4' : ¬ (((sq (d / 4)).2 : Nat) : Int) = 1 := by omega
      simp only [RSd.down, e4', decide_false, Ret_ret, result_1]
      rw [decide_eq_false (show ¬ fundP d by unfold fundP; omega)]
  · simp only [RSd.down, eql_int, neq_int, e0, e1, e2, e3, decide_true, decide_false, c_mod4_7, ne_eq, not_false_eq_true, Ret_ret, result_1]
    rw [decide_eq_false (show ¬ fundP d by unfold fundP; omega)]
noncomputable def I8 : Oracle := ext I7 27 fundS
theorem I8_ok : IOK Go.Proofs.Tryz.prog I8 := IOK.extL mixed tabOK otabOK I7_ok (g := 27) (fn := af27) rfl fun args av h => by
  unfold fundS at h
  split at h
  · split at h
    · rename_i hn; cases h; exact ⟨rfl, rfl, fund_run hn.1 hn.2⟩
    · cases h
  · cases h
section
variable {h : AHeap}
theorem c_fund8 {d : Int} (h1 : -100000 ≤ d) (h2 : d ≤ 100000) : lim otab.get I8 (.fn 27) [.int .i64 d] h = some (.bool (decide (fundP d)), h) :=
  lim_oracle (or_hit (spec := fundS) (if_pos ⟨h1, h2⟩))
theorem c_sfp8 {n : Int} : lim otab.get I8 (.fn 17) [.int .i64 n] h = some (sfp n, h) := lim_oracle rfl
theorem c_mod4_8 {n : Int} : lim otab.get I8 (.fn 43) [.int .i64 n] h = some (.int .i64 (n % 4), h) := lim_oracle rfl
theorem c_large8 {n : Int} : lim otab.get I8 (.fn 14) [.int .i64 n] h = some (.int .i64 (lg n), h) := lim_oracle rfl
theorem c_rpart8 {n : Int} (h0 : n ≠ 0) (h1 : -100000 ≤ n) (h2 : n ≤ 100000) : lim otab.get I8 (.fn 15) [.int .i64 n] h = some (.tup [.int .i64 (sq n).1, .int .i64 ((sq n).2 : Int)], h) :=
  lim_oracle (or_hit (spec := partS) (if_pos ⟨h0, h1, h2⟩))
theorem c_rmod8 {n : Int} : lim otab.get I8 (.fn 16) [.int .i64 n, .int .i64 4] h = some (.int .i64 (n % 4), h) :=
  lim_oracle (Eq.trans (b := I5 16 [.int .i64 n, .int .i64 4] h) rfl (ext_hit modS4))
end
/-- Discriminant -/
def dsc (n : Int) : AV := if lg n = 0 then (if n = 0 then .tup [.int .i64 0, .int .i64 6] else if (sq n).1 = 1 then .tup [.int .i64 0, .int .i64 26] else if (sq n).1 % 4 = 1 then .tup [.int .i64 (sq n).1, .int .i64 0] else .tup [.int .i64 (4 * (sq n).1), .int .i64 0]) else .tup [.int .i64 0, .int .i64 4]
def dscS : List AV → Option AV
  | [.int .i64 n] => some (dsc n)
  | _ => none
theorem dsc_run (n : Int) : ∃ h', lim otab.get I8 (.fn 18) [.int .i64 n] .empty = some (dsc n, h') := by
  refine run_of (fn := of18) rfl rfl ?_
  show WK _ _ [] ⟨[.int .i64 n, aundef, aundef, aundef], .empty⟩ _
  dsimp only [of18]
  simp only [RSd.down, c_sfp8]
  unfold dsc sfp
  have f60 : ((6 : Int) = 0) = False := by simp
  have f40 : ((4 : Int) = 0) = False := by simp
  have f26 : ((26 : Int) = 0) = False := by simp
  rcases lg_cases n with ⟨hl, hb1, hb2⟩ | ⟨hl, hb⟩
  · by_cases h0 : n = 0
    · subst h0
      simp only [hl, if_true, RSd.down, eql_int, neq_int, f60, decide_false, decide_true, ne_eq, not_false_eq_true, Ret_ret, result_2]
    · have hd := sq_ok h0 hb1 hb2
      have hln := hd.ln
      by_cases h1 : (sq n).1 = 1
      · simp only [hl, h0, h1, if_true, if_false, RSd.down, eql_int, neq_int, f26, decide_false, decide_true, ne_eq, not_false_eq_true, Ret_ret, result_2]
      · by_cases h2 : (sq n).1 % 4 = 1
        · simp only [hl, h0, h1, h2, if_true, if_false, RSd.down, eql_int, neq_int, decide_false, decide_true, ne_eq, not_true_eq_false, c_mod4_8, Ret_ret, result_2]
        · simp (disch := omega) only [hl, h0, h1, h2, if_true, if_false, RSd.down, eql_int, neq_int, decide_false, decide_true, ne_eq, not_true_eq_false, c_mod4_8, mul_i64, Ret_ret, result_2]
  · simp only [hl, if_false, RSd.down, eql_int, neq_int, f40, decide_false, decide_true, ne_eq, not_false_eq_true, Ret_ret, result_2]
noncomputable def I9 : Oracle := ext I8 18 dscS
theorem I9_ok : IOK Go.Proofs.Tryz.prog I9 := IOK.extL mixed tabOK otabOK I8_ok (g := 18) (fn := af18) rfl fun args av h => by
  unfold dscS at h
  split at h
  · rename_i n
    cases h
    refine ⟨rfl, ?_, dsc_run n⟩
    unfold dsc; split
    · split
      · rfl
      · split
        · rfl
        · split <;> rfl
    · rfl
  · cases h

def isFundS : List AV → Option AV
  | [.int .i64 n] => some (.bool (decide (lg n = 0 ∧ fundP n)))
  | _ => none
theorem isFund_run (n : Int) : ∃ h', lim otab.get I9 (.fn 25) [.int .i64 n] .empty = some (.bool (decide (lg n = 0 ∧ fundP n)), h') := by
  refine run_of (fn := of25) rfl rfl ?_
  show WK _ _ [] ⟨[.int .i64 n, aundef], .empty⟩ _
  dsimp only [of25]
  have hI : ∀ a h, I9 26 a h = none := fun _ _ => rfl
  simp only [RSd.down]
  rw [bslice1 (v := .int .i64 n) rfl rfl]
  simp only [RSd.down, bounded_1e hI, eql_int]
  have f40 : ((4 : Int) = 0) = False := by simp
  rcases lg_cases n with ⟨hl, hb1, hb2⟩ | ⟨hl, hb⟩
  · have c : ∀ h, lim otab.get I9 (.fn 27) [.int .i64 n] h = some (.bool (decide (fundP n)), h) := fun h => lim_oracle (or_hit (spec := fundS) (if_pos ⟨hb1, hb2⟩))
    simp only [hl, RSd.down, decide_true, c, Ret_ret, result_1, true_and]
  · simp only [hl, RSd.down, f40, decide_false, Ret_ret, result_1, false_and]
noncomputable def I10 : Oracle := ext I9 25 isFundS
theorem I10_ok : IOK Go.Proofs.Tryz.prog I10 := IOK.extL mixed tabOK otabOK I9_ok (g := 25) (fn := af25) rfl fun args av h => by
  unfold isFundS at h
  split at h
  · rename_i n; cases h; exact ⟨rfl, rfl, isFund_run n⟩
  · cases h
section
variable {h : AHeap}
theorem c_large10 {n : Int} : lim otab.get I10 (.fn 14) [.int .i64 n] h = some (.int .i64 (lg n), h) := lim_oracle rfl
theorem c_rpart10 {n : Int} (h0 : n ≠ 0) (h1 : -100000 ≤ n) (h2 : n ≤ 100000) : lim otab.get I10 (.fn 15) [.int .i64 n] h = some (.tup [.int .i64 (sq n).1, .int .i64 ((sq n).2 : Int)], h) :=
  lim_oracle (or_hit (spec := partS) (if_pos ⟨h0, h1, h2⟩))
theorem c_rmod10 {n : Int} : lim otab.get I10 (.fn 16) [.int .i64 n, .int .i64 4] h = some (.int .i64 (n % 4), h) :=
  lim_oracle (Eq.trans (b := I5 16 [.int .i64 n, .int .i64 4] h) rfl (ext_hit modS4))
end
theorem risFund_run (d : Int) : ∃ h', lim otab.get I10 (.fn 4) [.int .i64 d] .empty = some (.bool (decide (lg d = 0 ∧ fundP d)), h') := by
  refine run_of (fn := of4) rfl rfl ?_
  show WK _ _ [] ⟨[.int .i64 d, aundef, aundef], .empty⟩ _
  dsimp only [of4]
  have f40 : ((4 : Int) = 0) = False := by simp
  rcases lg_cases d with ⟨hl, h1, h2⟩ | ⟨hl, hb⟩
  · by_cases e0 : d = 0
    · simp only [e0, RSd.down, eql_int, neq_int, c_large10, show lg 0 = 0 from rfl, ne_eq, not_true_eq_false, decide_true, decide_false, Ret_ret, result_1]; rfl
    by_cases e1 : d = 1
    · simp only [e1, RSd.down, eql_int, neq_int, c_large10, show lg 1 = 0 from rfl, ne_eq, not_true_eq_false, decide_true, decide_false, Ret_ret, result_1, show ((1 : Int) = 0) = False from by simp]
      rw [decide_eq_false (show ¬ (True ∧ fundP 1) from fun h => h.2.2.1 rfl)]
    simp only [RSd.down, eql_int, neq_int, c_large10, hl, ne_eq, not_true_eq_false, e0, e1, decide_true, decide_false, c_rpart10 e0 h1 h2, c_rmod10, true_and]
    by_cases e2 : d % 4 = 1
    · simp only [e2, RSd.down, eql_int, decide_true, Ret_ret, result_1]
      have : fundP d ↔ ((sq d).2 : Int) = 1 := by unfold fundP; rw [sq_cast]; omega
      rw [decide_eq_decide.2 this]
    by_cases e3 : d % 4 = 0
    · have m0 : d / 4 ≠ 0 := by omega
      simp only [RSd.down, eql_int, neq_int, e3, decide_true, decide_false, c_rmod10, ne_eq, not_true_eq_false, quo4 e3 h1 h2, c_rpart10 m0 (show -100000 ≤ d / 4 by omega) (show d / 4 ≤ 100000 by omega), show ((0 : Int) = 1) = False from by simp]
      by_cases e4 : (sq (d / 4)).2 = 1
      · have e4' : (((sq (d / 4)).2 : Nat) : Int) = 1 := by omega
        obtain ⟨q1, q2⟩ := sq_one m0 e4
        simp only [RSd.down, e4', decide_true, neq_int, c_rmod10, Ret_ret, result_1, q1]
        have : fundP d ↔ ¬ d / 4 % 4 = 1 := by unfold fundP; omega
        rw [decide_eq_decide.2 this]
      · have e4' : ¬ (((sq (d / 4)).2 : Nat) : Int) = 1 := by omega
        simp only [RSd.down, e4', decide_false, Ret_ret, result_1]
        rw [decide_eq_false (show ¬ fundP d by unfold fundP; omega)]
    · simp only [RSd.down, eql_int, neq_int, e2, e3, decide_true, decide_false, c_rmod10, ne_eq, not_false_eq_true, Ret_ret, result_1]
      rw [decide_eq_false (show ¬ fundP d by unfold fundP; omega)]
  · simp only [RSd.down, eql_int, neq_int, c_large10, hl, f40, ne_eq, not_false_eq_true, decide_true, Ret_ret, result_1, false_and, decide_false]
noncomputable def I11 : Oracle := ext I10 4 isFundS
theorem I11_ok : IOK Go.Proofs.Tryz.prog I11 := IOK.extL mixed tabOK otabOK I10_ok (g := 4) (fn := af4) rfl fun args av h => by
  unfold isFundS at h
  split at h
  · rename_i n; cases h; exact ⟨rfl, rfl, risFund_run n⟩
  · cases h

end Go.AM
