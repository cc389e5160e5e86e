/- The program's Jacobi and Kronecker symbols: what the code computes. No condition. -/
import Derived.Test.YtemmnocgkgoegaaFac2
import Derived.Test.YtemmnocgkgoegaaQr3
set_option maxRecDepth 100000
set_option linter.unusedSimpArgs false
set_option linter.unusedVariables false
namespace Go.AM
open Go
theorem qmod_run {a m : Int} (h0 : 0 < m) (h1 : m ≤ 4611686018427387904) : ∃ h', lim otab.get I16 (.fn 106) [.int .i64 a, .int .i64 m] .empty = some (.int .i64 (a % m), h') := by
  refine run_of (fn := of106) rfl rfl ?_
  show WK _ _ [] ⟨[.int .i64 a, .int .i64 m, aundef], .empty⟩ _
  dsimp only [of106]
  have e0 : 0 ≤ a % m := Int.emod_nonneg _ (by omega)
  have e1 : a % m < m := Int.emod_lt_of_pos a h0
  have e2 : a.tmod m = a % m ∨ a.tmod m = a % m - m := by
    rw [Int.tmod_eq_emod]
    split
    · exact .inl (by omega)
    · rw [Int.natAbs_of_nonneg (by omega)]; exact .inr rfl
  rcases e2 with e2 | e2
  · have e3 : ¬ a % m < 0 := by omega
    simp (disch := omega) only [RSd.down, rem_i64 (show m ≠ 0 by omega), e2, lss_int, e3, decide_false, Ret_ret, result_1]
  · have e3 : a % m - m < 0 := by omega
    have e4 : a % m - m + m = a % m := by omega
    simp (disch := omega) only [RSd.down, rem_i64 (show m ≠ 0 by omega), e2, lss_int, e3, decide_true, add_i64, e4, Ret_ret, result_1]
noncomputable def N1 : Oracle := ext I16 106 modS
theorem N1_ok : IOK Go.Proofs.Try.prog N1 := IOK.extL mixed tabOK otabOK I16_ok (g := 106) (fn := af106) rfl fun args av h => by
  unfold modS at h
  split at h
  · split at h
    · rename_i hn; cases h; exact ⟨rfl, rfl, qmod_run hn.1 hn.2⟩
    · cases h
  · cases h
theorem c_mod_N1 {h : AHeap} {a m : Int} (h0 : 0 < m) (h1 : m ≤ 4611686018427387904) : lim otab.get N1 (.fn 106) [.int .i64 a, .int .i64 m] h = some (.int .i64 (a % m), h) :=
  lim_oracle (or_hit (spec := modS) (if_pos ⟨h0, h1⟩))
def unit1 (o : Int) : Prop := -1 ≤ o ∧ o ≤ 1
theorem tw_bd (n : Nat) : ∀ (f a : Nat) (o : Int), 1 ≤ a → a ≤ f → unit1 o → 1 ≤ (QR.tw f a n o).1 ∧ (QR.tw f a n o).1 ≤ a ∧ (QR.tw f a n o).1 % 2 = 1 ∧ unit1 (QR.tw f a n o).2
  | 0, a, o, h1, h2, _ => by omega
  | f + 1, a, o, h1, h2, ho => by
    unfold QR.tw
    by_cases e : a % 2 = 0
    · rw [if_pos e]
      have := tw_bd n f (a / 2) (if n % 8 = 3 ∨ n % 8 = 5 then -o else o) (by omega) (by omega) (by split <;> unfold unit1 at * <;> omega)
      exact ⟨this.1, by omega, this.2.2⟩
    · rw [if_neg e]; exact ⟨h1, Nat.le_refl _, by show a % 2 = 1; omega, ho⟩
section
variable {C : CallT} {K : List Fr} {Q : AX → St → Prop} {h : AHeap}
noncomputable def twB : ACode := match of84.body with | .seq _ (.seq _ (.seq _ (.seq (.seq _ (.block _ (.loop (.seq _ (.seq (.block _ (.seq (.block _ (.loop b)) _)) _))))) _))) => b | c => c
noncomputable def jaB : ACode := match of84.body with | .seq _ (.seq _ (.seq _ (.seq (.seq _ (.block _ (.loop b))) _))) => b | c => c
theorem tw_loop {n : Nat} (hn : n ≤ 100000) : ∀ (f a : Nat) (o : Int) (y2 y4 : AV), 1 ≤ a → a ≤ f → a ≤ 100000 → unit1 o →
    (∀ z2 z4 : AV, WX C (.exit 2) K ⟨[.int .i64 ((QR.tw f a n o).1 : Int), .int .i64 (n : Int), z2, .int .i64 (QR.tw f a n o).2, z4], h⟩ Q) →
    WK C (.loop twB) K ⟨[.int .i64 (a : Int), .int .i64 (n : Int), y2, .int .i64 o, y4], h⟩ Q := by
  intro f
  induction f with
  | zero => intro a o y2 y4 h1 h2; omega
  | succ f ih =>
    intro a o y2 y4 h1 h2 h3 ho hQ
    refine WK_loop' (by dsimp only [twB, of84]) ?_
    unfold QR.tw at hQ
    obtain ⟨o1, o2⟩ := ho
    by_cases e : a % 2 = 0
    · rw [if_pos e] at hQ
      have e1 : ((a : Int) % 2 = 0) = True := eq_true (by omega)
      have e2 : (a : Int) / 2 = ((a / 2 : Nat) : Int) := rfl
      by_cases e8 : n % 8 = 3 ∨ n % 8 = 5
      · rw [if_pos e8] at hQ
        have e9 : ∀ y2 y4 : AV, WK C (.loop twB) K ⟨[.int .i64 ((a / 2 : Nat) : Int), .int .i64 (n : Int), y2, .int .i64 (-o), y4], h⟩ Q := fun y2 y4 => ih (a / 2) (-o) y2 y4 (by omega) (by omega) (by omega) ⟨by omega, by omega⟩ hQ
        by_cases f3 : n % 8 = 3
        · have f3' : ((n : Int) % 8 = 3) = True := eq_true (by omega)
          simp (disch := omega) only [RSd.down, rem_pos, eql_int, e1, decide_true, quo_pos, e2, f3', neg_i64]
          exact e9 _ _
        · have f3' : ((n : Int) % 8 = 3) = False := eq_false (by omega)
          have f5' : ((n : Int) % 8 = 5) = True := eq_true (by omega)
          simp (disch := omega) only [RSd.down, rem_pos, eql_int, e1, decide_true, quo_pos, e2, f3', f5', decide_false, neg_i64]
          exact e9 _ _
      · rw [if_neg e8] at hQ
        have f3' : ((n : Int) % 8 = 3) = False := eq_false (by omega)
        have f5' : ((n : Int) % 8 = 5) = False := eq_false (by omega)
        simp (disch := omega) only [RSd.down, rem_pos, eql_int, e1, decide_true, quo_pos, e2, f3', f5', decide_false]
        exact ih (a / 2) o _ _ (by omega) (by omega) (by omega) ⟨o1, o2⟩ hQ
    · rw [if_neg e] at hQ
      have e1 : ((a : Int) % 2 = 0) = False := eq_false (by omega)
      simp (disch := omega) only [RSd.down, rem_pos, eql_int, e1, decide_false]
      exact hQ _ _
theorem ja_loop : ∀ (f a n : Nat) (o : Int) (y2 y4 : AV), a < f → a ≤ 100000 → 1 ≤ n → n ≤ 100000 → unit1 o →
    (∀ (n' : Nat) (o' : Int) (z2 z4 : AV), QR.jl f a n o = (if 1 < n' then 0 else o') → n' ≤ 100000 → WX C (.exit 0) K ⟨[.int .i64 0, .int .i64 (n' : Int), z2, .int .i64 o', z4], h⟩ Q) →
    WK C (.loop jaB) K ⟨[.int .i64 (a : Int), .int .i64 (n : Int), y2, .int .i64 o, y4], h⟩ Q := by
  intro f
  induction f with
  | zero => intro a n o y2 y4 h1; omega
  | succ f ih =>
    intro a n o y2 y4 h1 h2 h3 h4 ho hQ
    refine WK_loop' (by dsimp only [jaB, of84]) ?_
    unfold QR.jl at hQ
    by_cases e : a = 0
    · subst e
      rw [if_pos rfl] at hQ
      have e1 : ((0 : Int) < ((0 : Nat) : Int)) = False := eq_false (by omega)
      simp only [RSd.down, gtr_int, e1, decide_false]
      exact hQ n o _ _ rfl h4
    · rw [if_neg e] at hQ
      have e1 : ((0 : Int) < (a : Int)) = True := eq_true (by omega)
      simp only [RSd.down, gtr_int, e1, decide_true]
      refine tw_loop h4 a a o _ _ (by omega) (Nat.le_refl _) h2 ho ?_
      intro z2 z4
      obtain ⟨b1, b2, b3, b4⟩ := tw_bd n a a o (by omega) (Nat.le_refl _) ho
      generalize (QR.tw a a n o).2 = w at *
      generalize (QR.tw a a n o).1 = b at *
      obtain ⟨w1, w2⟩ := b4
      have ed : (n : Int) % (b : Int) = ((n % b : Nat) : Int) := rfl
      have hlt : n % b < b := Nat.mod_lt _ (by omega)
      by_cases e3 : b % 4 = 3 ∧ n % 4 = 3
      · rw [if_pos e3] at hQ
        have f1 : ((b : Int) % 4 = 3) = True := eq_true (by omega)
        have f2 : ((n : Int) % 4 = 3) = True := eq_true (by omega)
        simp (disch := omega) only [RSd.down, rem_pos, eql_int, f1, f2, decide_true, neg_i64, ed]
        exact ih (n % b) b (-w) _ _ (by omega) (by omega) (by omega) (by omega) ⟨by omega, by omega⟩ hQ
      · rw [if_neg e3] at hQ
        by_cases f1 : b % 4 = 3
        · have f1' : ((b : Int) % 4 = 3) = True := eq_true (by omega)
          have f2' : ((n : Int) % 4 = 3) = False := eq_false (by omega)
          simp (disch := omega) only [RSd.down, rem_pos, eql_int, f1', f2', decide_true, decide_false, ed]
          exact ih (n % b) b w _ _ (by omega) (by omega) (by omega) (by omega) ⟨w1, w2⟩ hQ
        · have f1' : ((b : Int) % 4 = 3) = False := eq_false (by omega)
          simp (disch := omega) only [RSd.down, rem_pos, eql_int, f1', decide_false, ed]
          exact ih (n % b) b w _ _ (by omega) (by omega) (by omega) (by omega) ⟨w1, w2⟩ hQ
end
def jacS : List AV → Option AV
  | [.int .i64 a, .int .i64 n] => if -100000 ≤ a ∧ a ≤ 100000 ∧ 1 ≤ n ∧ n ≤ 100000 ∧ n % 2 = 1 then some (.tup [.int .i64 (QR.jv a n.toNat), .int .i64 0]) else none
  | _ => none
theorem jac_run {a : Int} {n : Nat} (h1 : -100000 ≤ a) (h2 : a ≤ 100000) (h3 : 1 ≤ n) (h4 : n ≤ 100000) (h5 : n % 2 = 1) : ∃ h', lim otab.get N1 (.fn 84) [.int .i64 a, .int .i64 (n : Int)] .empty = some (.tup [.int .i64 (QR.jv a n), .int .i64 0], h') := by
  refine run_of (fn := of84) rfl rfl ?_
  show WK _ _ [] ⟨[.int .i64 a, .int .i64 (n : Int), aundef, aundef, aundef], .empty⟩ _
  dsimp only [of84]
  simp only [RSd.down]
  rw [bslice1 rfl rfl]
  have hb := bad_spec (I := N1) (fun _ _ => rfl) (fun _ _ => rfl) (fun _ _ => rfl) (fun _ _ => rfl) (n := (n : Int)) (by omega) (by omega) (h := AHeap.empty.push (.cells [.int .i64 (n : Int)] true)) (i := AHeap.empty.next) (cap := .exact 1) cellsOf_push
  have f1 : ((n : Int) < 1) = False := eq_false (by omega)
  have f2 : ((n : Int) % 2 = 0) = False := eq_false (by omega)
  have em : ((a % (n : Int)).toNat : Int) = a % (n : Int) := Int.toNat_of_nonneg (Int.emod_nonneg _ (by omega))
  have hlt : a % (n : Int) < n := Int.emod_lt_of_pos a (by omega)
  simp (disch := omega) only [RSd.down, hb, f1, decide_false, rem_pos, eql_int, f2, c_mod_N1]
  rw [← em]
  refine ja_loop ((a % (n : Int)).toNat + 1) (a % (n : Int)).toNat n 1 _ _ (by omega) (by omega) h3 h4 ⟨by omega, by omega⟩ ?_
  intro n' o' z2 z4 hj hn'
  have hj' : QR.jv a n = if 1 < n' then 0 else o' := hj
  by_cases e : 1 < n'
  · rw [if_pos e] at hj'
    have e1 : ((1 : Int) < (n' : Int)) = True := eq_true (by omega)
    simp only [RSd.down, gtr_int, e1, decide_true, Ret_ret, result_2, hj']
  · rw [if_neg e] at hj'
    have e1 : ((1 : Int) < (n' : Int)) = False := eq_false (by omega)
    simp only [RSd.down, gtr_int, e1, decide_false, Ret_ret, result_2, hj']
noncomputable def N2 : Oracle := ext N1 84 jacS
theorem N2_ok : IOK Go.Proofs.Try.prog N2 := IOK.extL mixed tabOK otabOK N1_ok (g := 84) (fn := af84) rfl fun args av h => by
  unfold jacS at h
  split at h
  · split at h
    · rename_i n hn
      cases h
      obtain ⟨m, rfl⟩ := Int.eq_ofNat_of_zero_le (show 0 ≤ n by omega)
      exact ⟨rfl, rfl, jac_run hn.1 hn.2.1 (by omega) (by omega) (by omega)⟩
    · cases h
  · cases h
theorem c_jac {h : AHeap} {a : Int} {n : Nat} (h1 : -100000 ≤ a) (h2 : a ≤ 100000) (h3 : 1 ≤ n) (h4 : n ≤ 100000) (h5 : n % 2 = 1) : lim otab.get N2 (.fn 84) [.int .i64 a, .int .i64 (n : Int)] h = some (.tup [.int .i64 (QR.jv a n), .int .i64 0], h) :=
  lim_oracle (or_hit (spec := jacS) (if_pos (show -100000 ≤ a ∧ a ≤ 100000 ∧ 1 ≤ (n : Int) ∧ (n : Int) ≤ 100000 ∧ (n : Int) % 2 = 1 by omega)))
theorem jv_unit {a : Int} {n : Nat} (h5 : n % 2 = 1) : unit1 (QR.jv a n) := by
  obtain ⟨l, h1, h2⟩ := QR.exists_odds h5
  subst h2
  rw [QR.jv_ok h1, ← QR.kron_odds h1]
  rcases QR.kron_tri (d := a) (fun p hp => (h1 p hp).1) with e | e | e <;> rw [e] <;> exact ⟨by decide, by decide⟩
section
variable {K : List Fr} {Q : AX → St → Prop} {h : AHeap} {C : CallT}
noncomputable def syB : ACode := match of64.body with | .seq _ (.seq _ (.seq _ (.seq _ (.seq (.block _ (.loop b)) _)))) => b | c => c
theorem sy_loop {d : Int} : ∀ (f n : Nat) (o : Int) (y2 y4 : AV), 1 ≤ n → n ≤ f → n ≤ 100000 → unit1 o →
    (∀ (n' : Nat) (o' : Int) (z2 z4 : AV), QR.k2 f d n o = o' * QR.jv d n' → 1 ≤ n' → n' % 2 = 1 → n' ≤ 100000 → unit1 o' → WX C (.exit 0) K ⟨[.int .i64 d, .int .i64 (n' : Int), z2, .int .i64 o', z4], h⟩ Q) →
    (∀ z1 z3 z4 : AV, QR.k2 f d n o = 0 → WX C .ret K ⟨[.int .i64 d, z1, .int .i64 0, z3, z4], h⟩ Q) →
    WK C (.loop syB) K ⟨[.int .i64 d, .int .i64 (n : Int), y2, .int .i64 o, y4], h⟩ Q := by
  intro f
  induction f with
  | zero => intro n o y2 y4 h1 h2; omega
  | succ f ih =>
    intro n o y2 y4 h1 h2 h3 ho hQ hR
    refine WK_loop' (by dsimp only [syB, of64]) ?_
    unfold QR.k2 at hQ hR
    have ho' := ho
    obtain ⟨o1, o2⟩ := ho'
    by_cases e : n % 2 = 0
    · rw [if_pos e] at hQ hR
      have e1 : ((n : Int) % 2 = 0) = True := eq_true (by omega)
      have e2 : (n : Int) / 2 = ((n / 2 : Nat) : Int) := rfl
      have e7 : bin .and .no (.int .i64 d) (.int .i64 7) = some (.int .i64 (d % 8)) := and_i64 7 3 rfl (by decide)
      by_cases d1 : d % 8 = 1
      · rw [if_pos d1] at hQ hR
        simp (disch := omega) only [RSd.down, rem_pos, eql_int, e1, decide_true, quo_pos, e2, e7, d1]
        exact ih (n / 2) o _ _ (by omega) (by omega) (by omega) ho hQ hR
      · rw [if_neg d1] at hQ hR
        by_cases d5 : d % 8 = 5
        · rw [if_pos d5] at hQ hR
          simp (disch := omega) only [RSd.down, rem_pos, eql_int, e1, decide_true, quo_pos, e2, e7, d1, d5, decide_false, neg_i64]
          rw [show decide ((5 : Int) = 1) = false from rfl]
          simp (disch := omega) only [RSd.down, eql_int, decide_true, neg_i64]
          exact ih (n / 2) (-o) _ _ (by omega) (by omega) (by omega) ⟨by omega, by omega⟩ hQ hR
        · rw [if_neg d5] at hQ hR
          simp (disch := omega) only [RSd.down, rem_pos, eql_int, e1, decide_true, quo_pos, e2, e7, d1, d5, decide_false]
          exact hR _ _ _ rfl
    · rw [if_neg e] at hQ
      have e1 : ((n : Int) % 2 = 0) = False := eq_false (by omega)
      simp (disch := omega) only [RSd.down, rem_pos, eql_int, e1, decide_false]
      exact hQ n o _ _ rfl h1 (by omega) h3 ho
end
theorem mul_unit {a b : Int} (h1 : unit1 a) (h2 : unit1 b) : unit1 (a * b) := by
  obtain ⟨a1, a2⟩ := h1
  obtain ⟨b1, b2⟩ := h2
  have h3 : a = -1 ∨ a = 0 ∨ a = 1 := by omega
  rcases h3 with h | h | h <;> subst h <;> unfold unit1 <;> omega
def symS : List AV → Option AV
  | [.int .i64 d, .int .i64 n] => if -100000 ≤ d ∧ d ≤ 100000 ∧ -100000 ≤ n ∧ n ≤ 100000 then some (.int .i64 (QR.K d n)) else none
  | _ => none
theorem sym_run {d n : Int} (h1 : -100000 ≤ d) (h2 : d ≤ 100000) (h3 : -100000 ≤ n) (h4 : n ≤ 100000) : ∃ h', lim otab.get N2 (.fn 64) [.int .i64 d, .int .i64 n] .empty = some (.int .i64 (QR.K d n), h') := by
  refine run_of (fn := of64) rfl rfl ?_
  show WK _ _ [] ⟨[.int .i64 d, .int .i64 n, aundef, aundef, aundef], .empty⟩ _
  dsimp only [of64]
  by_cases h0 : n = 0
  · subst h0
    by_cases hd : d = 1
    · subst hd
      have hk : QR.K 1 0 = 1 := rfl
      simp only [RSd.down, eql_int, decide_true, Ret_ret, result_1, hk]
    · have hk : QR.K d 0 = 0 := by unfold QR.K; rw [if_pos rfl, if_neg hd]
      simp only [RSd.down, eql_int, decide_true, decide_false, hd, Ret_ret, result_1, hk]
  · have hk : QR.K d n = QR.k2 n.natAbs d n.natAbs (QR.sn d n) := by unfold QR.K; rw [if_neg h0]
    have fin : ∀ (K : List Fr) (o : Int) (y2 y4 : AV), K = [.seq (.seq (.ops [⟨some 0, .call (.lit (.fn (.func 84) [] [])) [.tmp 0, .tmp 1], none⟩, ⟨some 1, .extr 0 (.tmp 0), none⟩, ⟨some 0, .extr 1 (.tmp 0), none⟩]) (.seq (.ops [⟨some 0, .bin .mul .no (.tmp 3) (.tmp 1), none⟩, ⟨some 2, .mov (.tmp 0), none⟩]) (.ret)))] → o = QR.sn d n → WK (lim otab.get N2) (.loop syB) (.block 0 :: K) ⟨[.int .i64 d, .int .i64 (n.natAbs : Int), y2, .int .i64 o, y4], .empty⟩ (Ret [.tmp 2] (.int .i64 (QR.K d n))) := by
      intro K o y2 y4 hK ho
      subst hK; subst ho
      refine sy_loop n.natAbs n.natAbs (QR.sn d n) _ _ (by omega) (Nat.le_refl _) (by omega) ?_ ?_ ?_
      · rcases QR.sn_tri (d := d) (n := n) with e | e | e <;> rw [e] <;> exact ⟨by decide, by decide⟩
      · intro n' o' z2 z4 e1 e2 e3 e4 e5
        obtain ⟨u1, u2⟩ := mul_unit e5 (jv_unit (a := d) e3)
        rw [← hk] at e1
        simp (disch := omega) only [RSd.down, c_jac h1 h2 e2 e4 e3, mul_i64, Ret_ret, result_1, e1]
      · intro z1 z3 z4 e1
        rw [← hk] at e1
        simp only [RSd.down, Ret_ret, result_1, e1]
    by_cases hn : n < 0
    · have ea : -n = (n.natAbs : Int) := by omega
      by_cases hd : d < 0
      · have hs : QR.sn d n = -1 := by unfold QR.sn; rw [if_pos ⟨hn, hd⟩]
        simp (disch := omega) only [RSd.down, eql_int, h0, decide_false, lss_int, hn, hd, decide_true, neg_i64, ea]
        exact fin _ (-1) _ _ rfl hs.symm
      · have hs : QR.sn d n = 1 := by unfold QR.sn; rw [if_neg (by omega)]
        simp (disch := omega) only [RSd.down, eql_int, h0, decide_false, lss_int, hn, hd, decide_true, neg_i64, ea]
        exact fin _ 1 _ _ rfl hs.symm
    · have ea : n = (n.natAbs : Int) := by omega
      have hs : QR.sn d n = 1 := by unfold QR.sn; rw [if_neg (by omega)]
      simp (disch := omega) only [RSd.down, eql_int, h0, decide_false, lss_int, hn]
      have := fin _ 1 (.bool false) aundef rfl hs.symm
      rw [← ea] at this
      exact this
noncomputable def N3 : Oracle := ext N2 64 symS
theorem N3_ok : IOK Go.Proofs.Try.prog N3 := IOK.extL mixed tabOK otabOK N2_ok (g := 64) (fn := af64) rfl fun args av h => by
  unfold symS at h
  split at h
  · split at h
    · rename_i hn; cases h; exact ⟨rfl, rfl, sym_run hn.1 hn.2.1 hn.2.2.1 hn.2.2.2⟩
    · cases h
  · cases h
end Go.AM
