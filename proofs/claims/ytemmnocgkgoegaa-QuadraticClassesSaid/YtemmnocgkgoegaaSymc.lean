/- The symbols of the program and of the reference: what the code computes. No condition. -/
import Derived.Test.YtemmnocgkgoegaaFacm
import Derived.Test.YtemmnocgkgoegaaQrm
set_option maxRecDepth 100000
set_option linter.unusedSimpArgs false
set_option linter.unusedVariables false
namespace Go.AM
open Go
theorem qmod_run {a m : Int} (h0 : 0 < m) (h1 : m ≤ 4611686018427387904) : ∃ h', lim otab.get I16 (.fn 106) [.int .i64 a, .int .i64 m] .empty = some (.int .i64 (a % m), h') := by
  refine run_of (fn := of106) rfl rfl ?_
  show WK _ _ [] ⟨[.int .i64 a, .int .i64 m, aundef], .empty⟩ _
  dsimp only [of106]
  have e0 : 0 ≤ a % m := Int.emod_nonneg _ (by omega)
  have e1 : a % m < m := Int.emod_lt_of_pos a h0
  have e2 : a.tmod m = a % m ∨ a.tmod m = a % m - m := by
    rw [Int.tmod_eq_emod]
    split
    · exact .inl (by omega)
    · rw [Int.natAbs_of_nonneg (by omega)]; exact .inr rfl
  rcases e2 with e2 | e2
  · have e3 : ¬ a % m < 0 := by omega
    simp (disch := omega) only [RSd.down, rem_i64 (show m ≠ 0 by omega), e2, lss_int, e3, decide_false, Ret_ret, result_1]
  · have e3 : a % m - m < 0 := by omega
    have e4 : a % m - m + m = a % m := by omega
    simp (disch := omega) only [RSd.down, rem_i64 (show m ≠ 0 by omega), e2, lss_int, e3, decide_true, add_i64, e4, Ret_ret, result_1]
noncomputable def N1 : Oracle := ext I16 106 modS
theorem N1_ok : IOK Go.Proofs.Try.prog N1 := IOK.extL mixed tabOK otabOK I16_ok (g := 106) (fn := af106) rfl fun args av h => by
  unfold modS at h
  split at h
  · split at h
    · rename_i hn; cases h; exact ⟨rfl, rfl, qmod_run hn.1 hn.2⟩
    · cases h
  · cases h
theorem c_mod_N1 {h : AHeap} {a m : Int} (h0 : 0 < m) (h1 : m ≤ 4611686018427387904) : lim otab.get N1 (.fn 106) [.int .i64 a, .int .i64 m] h = some (.int .i64 (a % m), h) :=
  lim_oracle (or_hit (spec := modS) (if_pos ⟨h0, h1⟩))
def unit1 (o : Int) : Prop := -1 ≤ o ∧ o ≤ 1
theorem tw_bd (n : Nat) : ∀ (f a : Nat) (o : Int), 1 ≤ a → a ≤ f → unit1 o → 1 ≤ (QR.tw f a n o).1 ∧ (QR.tw f a n o).1 ≤ a ∧ (QR.tw f a n o).1 % 2 = 1 ∧ unit1 (QR.tw f a n o).2
  | 0, a, o, h1, h2, _ => by omega
  | f + 1, a, o, h1, h2, ho => by
    unfold QR.tw
    by_cases e : a % 2 = 0
    · rw [if_pos e]
      have := tw_bd n f (a / 2) (if n % 8 = 3 ∨ n % 8 = 5 then -o else o) (by omega) (by omega) (by split <;> unfold unit1 at * <;> omega)
      exact ⟨this.1, by omega, this.2.2⟩
    · rw [if_neg e]; exact ⟨h1, Nat.le_refl _, by show a % 2 = 1; omega, ho⟩
section
variable {C : CallT} {K : List Fr} {Q : AX → St → Prop} {h : AHeap}
noncomputable def twB : ACode := match of84.body with | .seq _ (.seq _ (.seq _ (.seq (.seq _ (.block _ (.loop (.seq _ (.seq (.block _ (.seq (.block _ (.loop b)) _)) _))))) _))) => b | c => c
noncomputable def jaB : ACode := match of84.body with | .seq _ (.seq _ (.seq _ (.seq (.seq _ (.block _ (.loop b))) _))) => b | c => c
theorem tw_loop {n : Nat} (hn : n ≤ 100000) : ∀ (f a : Nat) (o : Int) (y2 y4 : AV), 1 ≤ a → a ≤ f → a ≤ 100000 → unit1 o →
    (∀ z2 z4 : AV, WX C (.exit 2) K ⟨[.int .i64 ((QR.tw f a n o).1 : Int), .int .i64 (n : Int), z2, .int .i64 (QR.tw f a n o).2, z4], h⟩ Q) →
    WK C (.loop twB) K ⟨[.int .i64 (a : Int), .int .i64 (n : Int), y2, .int .i64 o, y4], h⟩ Q := by
  intro f
  induction f with
  | zero => intro a o y2 y4 h1 h2; omega
  | succ f ih =>
    intro a o y2 y4 h1 h2 h3 ho hQ
    refine WK_loop' (by dsimp only [twB, of84]) ?_
    unfold QR.tw at hQ
    obtain ⟨o1, o2⟩ := ho
    by_cases e : a % 2 = 0
    · rw [if_pos e] at hQ
      have e1 : ((a : Int) % 2 = 0) = True := eq_true (by omega)
      have e2 : (a : Int) / 2 = ((a / 2 : Nat) : Int) := rfl
      by_cases e8 : n % 8 = 3 ∨ n % 8 = 5
      · rw [if_pos e8] at hQ
        have e9 : ∀ y2 y4 : AV, WK C (.loop twB) K ⟨[.int .i64 ((a / 2 : Nat) : Int), .int .i64 (n : Int), y2, .int .i64 (-o), y4], h⟩ Q := fun y2 y4 => ih (a / 2) (-o) y2 y4 (by omega) (by omega) (by omega) ⟨by omega, by omega⟩ hQ
        by_cases f3 : n % 8 = 3
        · have f3' : ((n : Int) % 8 = 3) = True := eq_true (by omega)
          simp (disch := omega) only [RSd.down, rem_pos, eql_int, e1, decide_true, quo_pos, e2, f3', neg_i64]
          exact e9 _ _
        · have f3' : ((n : Int) % 8 = 3) = False := eq_false (by omega)
          have f5' : ((n : Int) % 8 = 5) = True := eq_true (by omega)
          simp (disch := omega) only [RSd.down, rem_pos, eql_int, e1, decide_true, quo_pos, e2, f3', f5', decide_false, neg_i64]
          exact e9 _ _
      · rw [if_neg e8] at hQ
        have f3' : ((n : Int) % 8 = 3) = False := eq_false (by omega)
        have f5' : ((n : Int) % 8 = 5) = False := eq_false (by omega)
        simp (disch := omega) only [RSd.down, rem_pos, eql_int, e1, decide_true, quo_pos, e2, f3', f5', decide_false]
        exact ih (a / 2) o _ _ (by omega) (by omega) (by omega) ⟨o1, o2⟩ hQ
    · rw [if_neg e] at hQ
      have e1 : ((a : Int) % 2 = 0) = False := eq_false (by omega)
      simp (disch := omega) only [RSd.down, rem_pos, eql_int, e1, decide_false]
      exact hQ _ _
theorem ja_loop : ∀ (f a n : Nat) (o : Int) (y2 y4 : AV), a < f → a ≤ 100000 → 1 ≤ n → n ≤ 100000 → unit1 o →
    (∀ (n' : Nat) (o' : Int) (z2 z4 : AV), QR.jl f a n o = (if 1 < n' then 0 else o') → n' ≤ 100000 → WX C (.exit 0) K ⟨[.int .i64 0, .int .i64 (n' : Int), z2, .int .i64 o', z4], h⟩ Q) →
    WK C (.loop jaB) K ⟨[.int .i64 (a : Int), .int .i64 (n : Int), y2, .int .i64 o, y4], h⟩ Q := by
  intro f
  induction f with
  | zero => intro a n o y2 y4 h1; omega
  | succ f ih =>
    intro a n o y2 y4 h1 h2 h3 h4 ho hQ
    refine WK_loop' (by dsimp only [jaB, of84]) ?_
    unfold QR.jl at hQ
    by_cases e : a = 0
    · subst e
      rw [if_pos rfl] at hQ
      have e1 : ((0 : Int) < ((0 : Nat) : Int)) = False := eq_false (by omega)
      simp only [RSd.down, gtr_int, e1, decide_false]
      exact hQ n o _ _ rfl h4
    · rw [if_neg e] at hQ
      have e1 : ((0 : Int) < (a : Int)) = True := eq_true (by omega)
      simp only [RSd.down, gtr_int, e1, decide_true]
      refine tw_loop h4 a a o _ _ (by omega) (Nat.le_refl _) h2 ho ?_
      intro z2 z4
      obtain ⟨b1, b2, b3, b4⟩ := tw_bd n a a o (by omega) (Nat.le_refl _) ho
      generalize (QR.tw a a n o).2 = w at *
      generalize (QR.tw a a n o).1 = b at *
      obtain ⟨w1, w2⟩ := b4
      have ed : (n : Int) % (b : Int) = ((n % b : Nat) : Int) := rfl
      have hlt : n % b < b := Nat.mod_lt _ (by omega)
      by_cases e3 : b % 4 = 3 ∧ n % 4 = 3
      · rw [if_pos e3] at hQ
        have f1 : ((b : Int) % 4 = 3) = True := eq_true (by omega)
        have f2 : ((n : Int) % 4 = 3) = True := eq_true (by omega)
        simp (disch := omega) only [RSd.down, rem_pos, eql_int, f1, f2, decide_true, neg_i64, ed]
        exact ih (n % b) b (-w) _ _ (by omega) (by omega) (by omega) (by omega) ⟨by omega, by omega⟩ hQ
      · rw [if_neg e3] at hQ
        by_cases f1 : b % 4 = 3
        · have f1' : ((b : Int) % 4 = 3) = True := eq_true (by omega)
          have f2' : ((n : Int) % 4 = 3) = False := eq_false (by omega)
          simp (disch := omega) only [RSd.down, rem_pos, eql_int, f1', f2', decide_true, decide_false, ed]
          exact ih (n % b) b w _ _ (by omega) (by omega) (by omega) (by omega) ⟨w1, w2⟩ hQ
        · have f1' : ((b : Int) % 4 = 3) = False := eq_false (by omega)
          simp (disch := omega) only [RSd.down, rem_pos, eql_int, f1', decide_false, ed]
          exact ih (n % b) b w _ _ (by omega) (by omega) (by omega) (by omega) ⟨w1, w2⟩ hQ
end
def jacS : List AV → Option AV
  | [.int .i64 a, .int .i64 n] => if -100000 ≤ a ∧ a ≤ 100000 ∧ 1 ≤ n ∧ n ≤ 100000 ∧ n % 2 = 1 then some (.tup [.int .i64 (QR.jv a n.toNat), .int .i64 0]) else none
  | _ => none
theorem jac_run {a : Int} {n : Nat} (h1 : -100000 ≤ a) (h2 : a ≤ 100000) (h3 : 1 ≤ n) (h4 : n ≤ 100000) (h5 : n % 2 = 1) : ∃ h', lim otab.get N1 (.fn 84) [.int .i64 a, .int .i64 (n : Int)] .empty = some (.tup [.int .i64 (QR.jv a n), .int .i64 0], h') := by
  refine run_of (fn := of84) rfl rfl ?_
  show WK _ _ [] ⟨[.int .i64 a, .int .i64 (n : Int), aundef, aundef, aundef], .empty⟩ _
  dsimp only [of84]
  simp only [RSd.down]
  rw [bslice1 rfl rfl]
  have hb := bad_spec (I := N1) (fun _ _ => rfl) (fun _ _ => rfl) (fun _ _ => rfl) (fun _ _ => rfl) (n := (n : Int)) (by omega) (by omega) (h := AHeap.empty.push (.cells [.int .i64 (n : Int)] true)) (i := AHeap.empty.next) (cap := .exact 1) cellsOf_push
  have f1 : ((n : Int) < 1) = False := eq_false (by omega)
  have f2 : ((n : Int) % 2 = 0) = False := eq_false (by omega)
  have em : ((a % (n : Int)).toNat : Int) = a % (n : Int) := Int.toNat_of_nonneg (Int.emod_nonneg _ (by omega))
  have hlt : a % (n : Int) < n := Int.emod_lt_of_pos a (by omega)
  simp (disch := omega) only [RSd.down, hb, f1, decide_false, rem_pos, eql_int, f2, c_mod_N1]
  rw [← em]
  refine ja_loop ((a % (n : Int)).toNat + 1) (a % (n : Int)).toNat n 1 _ _ (by omega) (by omega) h3 h4 ⟨by omega, by omega⟩ ?_
  intro n' o' z2 z4 hj hn'
  have hj' : QR.jv a n = if 1 < n' then 0 else o' := hj
  by_cases e : 1 < n'
  · rw [if_pos e] at hj'
    have e1 : ((1 : Int) < (n' : Int)) = True := eq_true (by omega)
    simp only [RSd.down, gtr_int, e1, decide_true, Ret_ret, result_2, hj']
  · rw [if_neg e] at hj'
    have e1 : ((1 : Int) < (n' : Int)) = False := eq_false (by omega)
    simp only [RSd.down, gtr_int, e1, decide_false, Ret_ret, result_2, hj']
noncomputable def N2 : Oracle := ext N1 84 jacS
theorem N2_ok : IOK Go.Proofs.Try.prog N2 := IOK.extL mixed tabOK otabOK N1_ok (g := 84) (fn := af84) rfl fun args av h => by
  unfold jacS at h
  split at h
  · split at h
    · rename_i n hn
      cases h
      obtain ⟨m, rfl⟩ := Int.eq_ofNat_of_zero_le (show 0 ≤ n by omega)
      exact ⟨rfl, rfl, jac_run hn.1 hn.2.1 (by omega) (by omega) (by omega)⟩
    · cases h
  · cases h
theorem c_jac {h : AHeap} {a : Int} {n : Nat} (h1 : -100000 ≤ a) (h2 : a ≤ 100000) (h3 : 1 ≤ n) (h4 : n ≤ 100000) (h5 : n % 2 = 1) : lim otab.get N2 (.fn 84) [.int .i64 a, .int .i64 (n : Int)] h = some (.tup [.int .i64 (QR.jv a n), .int .i64 0], h) :=
  lim_oracle (or_hit (spec := jacS) (if_pos (show -100000 ≤ a ∧ a ≤ 100000 ∧ 1 ≤ (n : Int) ∧ (n : Int) ≤ 100000 ∧ (n : Int) % 2 = 1 by omega)))
theorem jv_unit {a : Int} {n : Nat} (h5 : n % 2 = 1) : unit1 (QR.jv a n) := by
  obtain ⟨l, h1, h2⟩ := QR.exists_odds h5
  subst h2
  rw [QR.jv_ok h1, ← QR.kron_odds h1]
  rcases QR.kron_tri (d := a) (fun p hp => (h1 p hp).1) with e | e | e <;> rw [e] <;> exact ⟨by decide, by decide⟩
section
variable {K : List Fr} {Q : AX → St → Prop} {h : AHeap} {C : CallT}
noncomputable def syB : ACode := match of64.body with | .seq _ (.seq _ (.seq _ (.seq _ (.seq (.block _ (.loop b)) _)))) => b | c => c
theorem sy_loop {d : Int} : ∀ (f n : Nat) (o : Int) (y2 y4 : AV), 1 ≤ n → n ≤ f → n ≤ 100000 → unit1 o →
    (∀ (n' : Nat) (o' : Int) (z2 z4 : AV), QR.k2 f d n o = o' * QR.jv d n' → 1 ≤ n' → n' % 2 = 1 → n' ≤ 100000 → unit1 o' → WX C (.exit 0) K ⟨[.int .i64 d, .int .i64 (n' : Int), z2, .int .i64 o', z4], h⟩ Q) →
    (∀ z1 z3 z4 : AV, QR.k2 f d n o = 0 → WX C .ret K ⟨[.int .i64 d, z1, .int .i64 0, z3, z4], h⟩ Q) →
    WK C (.loop syB) K ⟨[.int .i64 d, .int .i64 (n : Int), y2, .int .i64 o, y4], h⟩ Q := by
  intro f
  induction f with
  | zero => intro n o y2 y4 h1 h2; omega
  | succ f ih =>
    intro n o y2 y4 h1 h2 h3 ho hQ hR
    refine WK_loop' (by dsimp only [syB, of64]) ?_
    unfold QR.k2 at hQ hR
    have ho' := ho
    obtain ⟨o1, o2⟩ := ho'
    by_cases e : n % 2 = 0
    · rw [if_pos e] at hQ hR
      have e1 : ((n : Int) % 2 = 0) = True := eq_true (by omega)
      have e2 : (n : Int) / 2 = ((n / 2 : Nat) : Int) := rfl
      have e7 : bin .and .no (.int .i64 d) (.int .i64 7) = some (.int .i64 (d % 8)) := and_i64 7 3 rfl (by decide)
      by_cases d1 : d % 8 = 1
      · rw [if_pos d1] at hQ hR
        simp (disch := omega) only [RSd.down, rem_pos, eql_int, e1, decide_true, quo_pos, e2, e7, d1]
        exact ih (n / 2) o _ _ (by omega) (by omega) (by omega) ho hQ hR
      · rw [if_neg d1] at hQ hR
        by_cases d5 : d % 8 = 5
        · rw [if_pos d5] at hQ hR
          simp (disch := omega) only [RSd.down, rem_pos, eql_int, e1, decide_true, quo_pos, e2, e7, d1, d5, decide_false, neg_i64]
          rw [show decide ((5 : Int) = 1) = false from rfl]
          simp (disch := omega) only [RSd.down, eql_int, decide_true, neg_i64]
          exact ih (n / 2) (-o) _ _ (by omega) (by omega) (by omega) ⟨by omega, by omega⟩ hQ hR
        · rw [if_neg d5] at hQ hR
          simp (disch := omega) only [RSd.down, rem_pos, eql_int, e1, decide_true, quo_pos, e2, e7, d1, d5, decide_false]
          exact hR _ _ _ rfl
    · rw [if_neg e] at hQ
      have e1 : ((n : Int) % 2 = 0) = False := eq_false (by omega)
      simp (disch := omega) only [RSd.down, rem_pos, eql_int, e1, decide_false]
      exact hQ n o _ _ rfl h1 (by omega) h3 ho
end
theorem mul_unit {a b : Int} (h1 : unit1 a) (h2 : unit1 b) : unit1 (a * b) := by
  obtain ⟨a1, a2⟩ := h1
  obtain ⟨b1, b2⟩ := h2
  have h3 : a = -1 ∨ a = 0 ∨ a = 1 := by omega
  rcases h3 with h | h | h <;> subst h <;> unfold unit1 <;> omega
def symS : List AV → Option AV
  | [.int .i64 d, .int .i64 n] => if -100000 ≤ d ∧ d ≤ 100000 ∧ -100000 ≤ n ∧ n ≤ 100000 then some (.int .i64 (QR.K d n)) else none
  | _ => none
theorem sym_run {d n : Int} (h1 : -100000 ≤ d) (h2 : d ≤ 100000) (h3 : -100000 ≤ n) (h4 : n ≤ 100000) : ∃ h', lim otab.get N2 (.fn 64) [.int .i64 d, .int .i64 n] .empty = some (.int .i64 (QR.K d n), h') := by
  refine run_of (fn := of64) rfl rfl ?_
  show WK _ _ [] ⟨[.int .i64 d, .int .i64 n, aundef, aundef, aundef], .empty⟩ _
  dsimp only [of64]
  by_cases h0 : n = 0
  · subst h0
    by_cases hd : d = 1
    · subst hd
      have hk : QR.K 1 0 = 1 := rfl
      simp only [RSd.down, eql_int, decide_true, Ret_ret, result_1, hk]
    · have hk : QR.K d 0 = 0 := by unfold QR.K; rw [if_pos rfl, if_neg hd]
      simp only [RSd.down, eql_int, decide_true, decide_false, hd, Ret_ret, result_1, hk]
  · have hk : QR.K d n = QR.k2 n.natAbs d n.natAbs (QR.sn d n) := by unfold QR.K; rw [if_neg h0]
    have fin : ∀ (K : List Fr) (o : Int) (y2 y4 : AV), K = [.seq (.seq (.ops [⟨some 0, .call (.lit (.fn (.func 84) [] [])) [.tmp 0, .tmp 1], none⟩, ⟨some 1, .extr 0 (.tmp 0), none⟩, ⟨some 0, .extr 1 (.tmp 0), none⟩]) (.seq (.ops [⟨some 0, .bin .mul .no (.tmp 3) (.tmp 1), none⟩, ⟨some 2, .mov (.tmp 0), none⟩]) (.ret)))] → o = QR.sn d n → WK (lim otab.get N2) (.loop syB) (.block 0 :: K) ⟨[.int .i64 d, .int .i64 (n.natAbs : Int), y2, .int .i64 o, y4], .empty⟩ (Ret [.tmp 2] (.int .i64 (QR.K d n))) := by
      intro K o y2 y4 hK ho
      subst hK; subst ho
      refine sy_loop n.natAbs n.natAbs (QR.sn d n) _ _ (by omega) (Nat.le_refl _) (by omega) ?_ ?_ ?_
      · rcases QR.sn_tri (d := d) (n := n) with e | e | e <;> rw [e] <;> exact ⟨by decide, by decide⟩
      · intro n' o' z2 z4 e1 e2 e3 e4 e5
        obtain ⟨u1, u2⟩ := mul_unit e5 (jv_unit (a := d) e3)
        rw [← hk] at e1
        simp (disch := omega) only [RSd.down, c_jac h1 h2 e2 e4 e3, mul_i64, Ret_ret, result_1, e1]
      · intro z1 z3 z4 e1
        rw [← hk] at e1
        simp only [RSd.down, Ret_ret, result_1, e1]
    by_cases hn : n < 0
    · have ea : -n = (n.natAbs : Int) := by omega
      by_cases hd : d < 0
      · have hs : QR.sn d n = -1 := by unfold QR.sn; rw [if_pos ⟨hn, hd⟩]
        simp (disch := omega) only [RSd.down, eql_int, h0, decide_false, lss_int, hn, hd, decide_true, neg_i64, ea]
        exact fin _ (-1) _ _ rfl hs.symm
      · have hs : QR.sn d n = 1 := by unfold QR.sn; rw [if_neg (by omega)]
        simp (disch := omega) only [RSd.down, eql_int, h0, decide_false, lss_int, hn, hd, decide_true, neg_i64, ea]
        exact fin _ 1 _ _ rfl hs.symm
    · have ea : n = (n.natAbs : Int) := by omega
      have hs : QR.sn d n = 1 := by unfold QR.sn; rw [if_neg (by omega)]
      simp (disch := omega) only [RSd.down, eql_int, h0, decide_false, lss_int, hn]
      have := fin _ 1 (.bool false) aundef rfl hs.symm
      rw [← ea] at this
      exact this
noncomputable def N3 : Oracle := ext N2 64 symS
theorem N3_ok : IOK Go.Proofs.Try.prog N3 := IOK.extL mixed tabOK otabOK N2_ok (g := 64) (fn := af64) rfl fun args av h => by
  unfold symS at h
  split at h
  · split at h
    · rename_i hn; cases h; exact ⟨rfl, rfl, sym_run hn.1 hn.2.1 hn.2.2.1 hn.2.2.2⟩
    · cases h
  · cases h
end Go.AM
namespace Go.AM
open Go
theorem mod_pow_mul (x y q m : Nat) : (x % m) * (y % m) ^ q % m = x * y ^ q % m := by
  rw [Nat.mul_mod, Nat.mod_mod, ← Nat.pow_mod, ← Nat.mul_mod]
section
variable {C : CallT} {K : List Fr} {Q : AX → St → Prop} {h : AHeap}
noncomputable def powB : ACode := match of107.body with | .seq _ (.seq _ (.seq _ (.seq (.block _ (.loop b)) _))) => b | c => c
theorem pow_loop {m : Nat} (m1 : 1 ≤ m) (m2 : m ≤ 1000000) : ∀ (f a k o : Nat) (y4 : AV), k < 2 ^ f → k ≤ 1000000 → a ≤ m → o < m →
    (∀ z0 z4 : AV, WX C (.exit 0) K ⟨[z0, .int .i64 0, .int .i64 (m : Int), .int .i64 ((o * a ^ k % m : Nat) : Int), z4], h⟩ Q) →
    WK C (.loop powB) K ⟨[.int .i64 (a : Int), .int .i64 (k : Int), .int .i64 (m : Int), .int .i64 (o : Int), y4], h⟩ Q := by
  intro f
  have base : ∀ (a o : Nat) (y4 : AV), o < m → (∀ z0 z4 : AV, WX C (.exit 0) K ⟨[z0, .int .i64 0, .int .i64 (m : Int), .int .i64 ((o * a ^ 0 % m : Nat) : Int), z4], h⟩ Q) →
      WK C (.loop powB) K ⟨[.int .i64 (a : Int), .int .i64 ((0 : Nat) : Int), .int .i64 (m : Int), .int .i64 (o : Int), y4], h⟩ Q := by
    intro a o y4 ho hQ
    refine WK_loop' (by dsimp only [powB, of107]) ?_
    have e1 : ((0 : Int) < ((0 : Nat) : Int)) = False := eq_false (by omega)
    have e2 : o * a ^ 0 % m = o := by rw [Nat.pow_zero, Nat.mul_one, Nat.mod_eq_of_lt ho]
    rw [e2] at hQ
    simp only [RSd.down, gtr_int, e1, decide_false]
    exact hQ _ _
  induction f with
  | zero =>
    intro a k o y4 h1 h2 h3 h4 hQ
    have : k = 0 := by simp at h1; omega
    subst this
    exact base a o y4 h4 hQ
  | succ f ih =>
    intro a k o y4 h1 h2 h3 h4 hQ
    by_cases hk : k = 0
    · subst hk; exact base a o y4 h4 hQ
    · refine WK_loop' (by dsimp only [powB, of107]) ?_
      have e1 : ((0 : Int) < (k : Int)) = True := eq_true (by omega)
      have e2 : (k : Int) / 2 = ((k / 2 : Nat) : Int) := rfl
      have haa : a * a ≤ 1000000 * 1000000 := Nat.mul_le_mul (by omega) (by omega)
      have hoa : o * a ≤ 1000000 * 1000000 := Nat.mul_le_mul (by omega) (by omega)
      have e3 : (a : Int) * (a : Int) = ((a * a : Nat) : Int) := (Int.natCast_mul _ _).symm
      have e4 : (o : Int) * (a : Int) = ((o * a : Nat) : Int) := (Int.natCast_mul _ _).symm
      have e5 : ((a * a : Nat) : Int) % (m : Int) = ((a * a % m : Nat) : Int) := rfl
      have e6 : ((o * a : Nat) : Int) % (m : Int) = ((o * a % m : Nat) : Int) := rfl
      have l1 : a * a % m < m := Nat.mod_lt _ (by omega)
      have l2 : o * a % m < m := Nat.mod_lt _ (by omega)
      have hp : a ^ k = (a * a) ^ (k / 2) * a ^ (k % 2) := by
        rw [← Nat.pow_two, ← Nat.pow_mul, ← Nat.pow_add]; congr 1; omega
      have hk2 : k / 2 < 2 ^ f := by rw [Nat.pow_succ] at h1; omega
      rcases Nat.mod_two_eq_zero_or_one k with e | e
      · have f1 : ((k : Int) % 2 = 1) = False := eq_false (by omega)
        have e7 : o * (a * a % m) ^ (k / 2) % m = o * a ^ k % m := by
          have := mod_pow_mul o (a * a) (k / 2) m
          rw [Nat.mod_eq_of_lt h4] at this
          rw [this, hp, e, Nat.pow_zero, Nat.mul_one]
        rw [← e7] at hQ
        simp (disch := omega) only [RSd.down, gtr_int, e1, decide_true, rem_pos, eql_int, f1, decide_false, mul_i64, e3, e5, quo_pos, e2]
        exact ih (a * a % m) (k / 2) o _ hk2 (by omega) (by omega) h4 hQ
      · have f1 : ((k : Int) % 2 = 1) = True := eq_true (by omega)
        have e7 : (o * a % m) * (a * a % m) ^ (k / 2) % m = o * a ^ k % m := by
          rw [mod_pow_mul, hp, e, Nat.pow_one, Nat.mul_comm ((a * a) ^ (k / 2)) a, Nat.mul_assoc]
        rw [← e7] at hQ
        simp (disch := omega) only [RSd.down, gtr_int, e1, decide_true, rem_pos, eql_int, f1, mul_i64, e4, e6, e3, e5, quo_pos, e2]
        exact ih (a * a % m) (k / 2) (o * a % m) _ hk2 (by omega) (by omega) l2 hQ
end
theorem c_mod_N3 {h : AHeap} {a m : Int} (h0 : 0 < m) (h1 : m ≤ 4611686018427387904) : lim otab.get N3 (.fn 36) [.int .i64 a, .int .i64 m] h = some (.int .i64 (a % m), h) :=
  lim_oracle (or_hit (spec := modS) (if_pos ⟨h0, h1⟩))
def powS : List AV → Option AV
  | [.int .i64 a, .int .i64 k, .int .i64 m] => if 0 ≤ k ∧ k ≤ 1000000 ∧ 1 ≤ m ∧ m ≤ 1000000 then some (.int .i64 (a ^ k.toNat % m)) else none
  | _ => none
theorem pow_run {a : Int} {k m : Nat} (h1 : k ≤ 1000000) (h2 : 1 ≤ m) (h3 : m ≤ 1000000) : ∃ h', lim otab.get N3 (.fn 107) [.int .i64 a, .int .i64 (k : Int), .int .i64 (m : Int)] .empty = some (.int .i64 (a ^ k % (m : Int)), h') := by
  refine run_of (fn := of107) rfl rfl ?_
  show WK _ _ [] ⟨[.int .i64 a, .int .i64 (k : Int), .int .i64 (m : Int), aundef, aundef], .empty⟩ _
  dsimp only [of107]
  have em : ((a % (m : Int)).toNat : Int) = a % (m : Int) := Int.toNat_of_nonneg (Int.emod_nonneg _ (by omega))
  have hlt : a % (m : Int) < m := Int.emod_lt_of_pos a (by omega)
  have e1 : (1 : Int) % (m : Int) = ((1 % m : Nat) : Int) := rfl
  have l1 : 1 % m < m := Nat.mod_lt _ (by omega)
  simp (disch := omega) only [RSd.down, rem_pos, e1, c_mod_N3]
  rw [← em]
  refine pow_loop h2 h3 20 (a % (m : Int)).toNat k (1 % m) _ (by omega) h1 (by omega) l1 ?_
  intro z0 z4
  have e2 : ((1 % m * (a % (m : Int)).toNat ^ k % m : Nat) : Int) = a ^ k % (m : Int) := by
    rw [Nat.mul_mod, Nat.mod_mod, ← Nat.mul_mod, Nat.one_mul]
    rw [Int.natCast_emod, Int.natCast_pow, em]
    refine (QR.emod_eq_of_dvd (QR.pow_sub ?_ k)).symm
    exact QR.dvd_sub_emod a m
  simp only [RSd.down, Ret_ret, result_1, e2]
noncomputable def N4 : Oracle := ext N3 107 powS
theorem N4_ok : IOK Go.Proofs.Try.prog N4 := IOK.extL mixed tabOK otabOK N3_ok (g := 107) (fn := af107) rfl fun args av h => by
  unfold powS at h
  split at h
  · split at h
    · rename_i k m hn
      cases h
      obtain ⟨k, rfl⟩ := Int.eq_ofNat_of_zero_le (show 0 ≤ k by omega)
      obtain ⟨m, rfl⟩ := Int.eq_ofNat_of_zero_le (show 0 ≤ m by omega)
      exact ⟨rfl, rfl, pow_run (by omega) (by omega) (by omega)⟩
    · cases h
  · cases h
def legS : List AV → Option AV
  | [.int .i64 a, .int .i64 p] => if 1 ≤ p ∧ p ≤ 1000000 then some (.int .i64 (QR.leg a p.toNat)) else none
  | _ => none
theorem leg_run {a : Int} {p : Nat} (h1 : 1 ≤ p) (h2 : p ≤ 1000000) : ∃ h', lim otab.get N4 (.fn 85) [.int .i64 a, .int .i64 (p : Int)] .empty = some (.int .i64 (QR.leg a p), h') := by
  refine run_of (fn := of85) rfl rfl ?_
  show WK _ _ [] ⟨[.int .i64 a, .int .i64 (p : Int), aundef], .empty⟩ _
  dsimp only [of85]
  have e1 : ((p : Int) - 1) / 2 = (((p - 1) / 2 : Nat) : Int) := by omega
  have c : ∀ h, lim otab.get N4 (.fn 107) [.int .i64 a, .int .i64 (((p - 1) / 2 : Nat) : Int), .int .i64 (p : Int)] h = some (.int .i64 (a ^ ((p - 1) / 2) % (p : Int)), h) := fun h =>
    lim_oracle (or_hit (spec := powS) (if_pos (show 0 ≤ (((p - 1) / 2 : Nat) : Int) ∧ (((p - 1) / 2 : Nat) : Int) ≤ 1000000 ∧ 1 ≤ (p : Int) ∧ (p : Int) ≤ 1000000 by omega)))
  by_cases e : a ^ ((p - 1) / 2) % (p : Int) = (p : Int) - 1
  · have hl : QR.leg a p = -1 := by unfold QR.leg; rw [if_pos e]
    simp (disch := omega) only [RSd.down, sub_i64, quo_pos, e1, c, eql_int, e, decide_true, Ret_ret, result_1, hl]
  · have hl : QR.leg a p = a ^ ((p - 1) / 2) % (p : Int) := by unfold QR.leg; rw [if_neg e]
    simp (disch := omega) only [RSd.down, sub_i64, quo_pos, e1, c, eql_int, e, decide_false, Ret_ret, result_1, hl]
noncomputable def N5 : Oracle := ext N4 85 legS
theorem N5_ok : IOK Go.Proofs.Try.prog N5 := IOK.extL mixed tabOK otabOK N4_ok (g := 85) (fn := af85) rfl fun args av h => by
  unfold legS at h
  split at h
  · split at h
    · rename_i p hn
      cases h
      obtain ⟨p, rfl⟩ := Int.eq_ofNat_of_zero_le (show 0 ≤ p by omega)
      exact ⟨rfl, rfl, leg_run (by omega) (by omega)⟩
    · cases h
  · cases h
theorem c_mod_N5 {h : AHeap} {a m : Int} (h0 : 0 < m) (h1 : m ≤ 4611686018427387904) : lim otab.get N5 (.fn 36) [.int .i64 a, .int .i64 m] h = some (.int .i64 (a % m), h) :=
  lim_oracle (or_hit (spec := modS) (if_pos ⟨h0, h1⟩))
def kpS : List AV → Option AV
  | [.int .i64 d, .int .i64 p] => if 1 ≤ p ∧ p ≤ 1000000 then some (.int .i64 (QR.kp d p.toNat)) else none
  | _ => none
theorem kp_run {d : Int} {p : Nat} (h1 : 1 ≤ p) (h2 : p ≤ 1000000) : ∃ h', lim otab.get N5 (.fn 66) [.int .i64 d, .int .i64 (p : Int)] .empty = some (.int .i64 (QR.kp d p), h') := by
  refine run_of (fn := of66) rfl rfl ?_
  show WK _ _ [] ⟨[.int .i64 d, .int .i64 (p : Int), aundef], .empty⟩ _
  dsimp only [of66]
  have c : ∀ h, lim otab.get N5 (.fn 85) [.int .i64 d, .int .i64 (p : Int)] h = some (.int .i64 (QR.leg d p), h) := fun h =>
    lim_oracle (or_hit (spec := legS) (if_pos (show 1 ≤ (p : Int) ∧ (p : Int) ≤ 1000000 by omega)))
  have c2 := fun h => c_mod_N5 (h := h) (a := d) (m := 8) (by decide) (by decide)
  by_cases e : 2 < p
  · have e1 : ((2 : Int) < (p : Int)) = True := eq_true (by omega)
    have hl : QR.kp d p = QR.leg d p := by unfold QR.kp; rw [if_pos e]
    simp only [RSd.down, gtr_int, e1, decide_true, c, Ret_ret, result_1, hl]
  · have e1 : ((2 : Int) < (p : Int)) = False := eq_false (by omega)
    have hl : QR.kp d p = if d % 8 = 1 then 1 else if d % 8 = 5 then -1 else 0 := by unfold QR.kp; rw [if_neg e]
    by_cases d1 : d % 8 = 1
    · rw [if_pos d1] at hl
      simp only [RSd.down, gtr_int, e1, decide_false, c2, eql_int, d1, decide_true, Ret_ret, result_1, hl]
    · rw [if_neg d1] at hl
      by_cases d5 : d % 8 = 5
      · rw [if_pos d5] at hl
        have d1' : (d % 8 = 1) = False := eq_false d1
        have d5' : (d % 8 = 5) = True := eq_true d5
        simp only [RSd.down, gtr_int, e1, decide_false, c2, eql_int, d1', d5', decide_true, Ret_ret, result_1, hl]
      · rw [if_neg d5] at hl
        simp only [RSd.down, gtr_int, e1, decide_false, c2, eql_int, d1, d5, Ret_ret, result_1, hl]
noncomputable def N6 : Oracle := ext N5 66 kpS
theorem N6_ok : IOK Go.Proofs.Try.prog N6 := IOK.extL mixed tabOK otabOK N5_ok (g := 66) (fn := af66) rfl fun args av h => by
  unfold kpS at h
  split at h
  · split at h
    · rename_i p hn
      cases h
      obtain ⟨p, rfl⟩ := Int.eq_ofNat_of_zero_le (show 0 ≤ p by omega)
      exact ⟨rfl, rfl, kp_run (by omega) (by omega)⟩
    · cases h
  · cases h
theorem c_kp {h : AHeap} {d : Int} {p : Nat} (h1 : 1 ≤ p) (h2 : p ≤ 1000000) : lim otab.get N6 (.fn 66) [.int .i64 d, .int .i64 (p : Int)] h = some (.int .i64 (QR.kp d p), h) :=
  lim_oracle (or_hit (spec := kpS) (if_pos (show 1 ≤ (p : Int) ∧ (p : Int) ≤ 1000000 by omega)))
/-- b is a slice of the pairs L -/
structure LJ (h : AHeap) (b : AV) (L : List (Nat × Nat)) : Prop where
  val : (b = .nils ∧ L = []) ∨ ∃ i, b = .slice i 0 L.length (.opn 2) ∧ L ≠ [] ∧ i < h.next ∧ h.get i = some (.cells (flat2 L) true)
theorem LJ.app {h : AHeap} {b : AV} {L : List (Nat × Nat)} (H : LJ h b L) (p e : Nat) (hb : L.length ≤ 1000000) :
    ∃ b' h', appV 2 16 b (.slice h.next 0 1 (.exact 1)) (h.push (.cells [.int .i64 (p : Int), .int .i64 (e : Int)] true)) = some (b', h') ∧ LJ h' b' (L ++ [(p, e)]) := by
  have hsrc : srcOf 2 (.slice h.next 0 1 (.exact 1)) (h.push (.cells [.int .i64 (p : Int), .int .i64 (e : Int)] true)) = some (1, [.int .i64 (p : Int), .int .i64 (e : Int)]) := by
    simp only [srcOf, cellsOf_push, Nat.one_mul, cut_cons, cut_zero]
    rfl
  rcases H.val with ⟨e1, e2⟩ | ⟨i, e1, e2, e4, e5⟩
  · subst e1; subst e2
    refine ⟨.slice (h.next + 1) 0 1 (.opn 2), (h.push (.cells [.int .i64 (p : Int), .int .i64 (e : Int)] true)).push (.cells [.int .i64 (p : Int), .int .i64 (e : Int)] true), ?_, ?_⟩
    · unfold appV
      simp only [evalE, ev_lit, hsrc]
      rw [if_neg (by decide), if_pos (by decide)]
      rfl
    · exact ⟨.inr ⟨h.next + 1, rfl, by simp, by simp, AHeap.get_push_same (h.push (.cells [.int .i64 (p : Int), .int .i64 (e : Int)] true)) _⟩⟩
  · subst e1
    have hown : ownOf (h.push (.cells [.int .i64 (p : Int), .int .i64 (e : Int)] true)) i = some (flat2 L) := by
      unfold ownOf; rw [AHeap.get_push_lt _ _ e4, e5]
    have hd : drops (flat2 L) 0 = flat2 L := by cases flat2 L <;> rfl
    have hl := flat2_len L
    refine ⟨.slice (h.next + 1) 0 (L.length + 1) (.opn 2), ((h.push (.cells [.int .i64 (p : Int), .int .i64 (e : Int)] true)).del i).push (.cells (flat2 (L ++ [(p, e)])) true), ?_, ?_⟩
    · unfold appV
      simp only [evalE, ev_lit, hsrc, hown]
      rw [if_pos ⟨trivial, by omega⟩, if_neg (by omega), if_pos (by omega), hd, flat2_app]
      rfl
    · refine ⟨.inr ⟨h.next + 1, by simp, by simp, by simp, ?_⟩⟩
      exact AHeap.get_push_same ((h.push (.cells [.int .i64 (p : Int), .int .i64 (e : Int)] true)).del i) _
end Go.AM
namespace Go.AM
open Go
theorem isP.prime {p : Nat} (h : isP p) : QR.Prime p := ⟨h.1, fun m hm => by
  have hp := h.1
  by_cases h0 : m = 0
  · subst h0; have := Nat.eq_zero_of_zero_dvd hm; omega
  · by_cases h1 : m = 1
    · exact .inl h1
    · exact .inr (isP_dvd h (by omega) hm)⟩
theorem prime_isP {p : Nat} (h : QR.Prime p) : isP p := ⟨h.1, fun e h2 he hd => by
  rcases h.2 e hd with h1 | h1
  · omega
  · subst h1
    have : e * 2 ≤ e * e := Nat.mul_le_mul_left e h2
    omega⟩
/-- pairs, written out -/
def exL : List (Nat × Nat) → List Nat
  | [] => []
  | (p, e) :: r => List.replicate e p ++ exL r
theorem exL_app : ∀ (l : List (Nat × Nat)) (p e : Nat), exL (l ++ [(p, e)]) = exL l ++ List.replicate e p
  | [], p, e => by show List.replicate e p ++ [] = _; rw [List.append_nil]; rfl
  | (a, b) :: r, p, e => by show List.replicate b a ++ exL (r ++ [(p, e)]) = _; rw [exL_app r p e, ← List.append_assoc]; rfl
theorem pr_rep (p : Nat) : ∀ e : Nat, QR.pr (List.replicate e p) = p ^ e
  | 0 => rfl
  | e + 1 => by show p * QR.pr (List.replicate e p) = p ^ (e + 1); rw [pr_rep p e, Nat.pow_succ, Nat.mul_comm]
theorem mem_exL : ∀ {l : List (Nat × Nat)} {q : Nat}, q ∈ exL l → ∃ x ∈ l, q = x.1
  | (p, e) :: r, q, h => by
    have h' : q ∈ List.replicate e p ++ exL r := h
    rcases List.mem_append.1 h' with h1 | h1
    · exact ⟨(p, e), List.mem_cons_self, (List.mem_replicate.1 h1).2⟩
    · obtain ⟨x, hx, e1⟩ := mem_exL h1
      exact ⟨x, List.mem_cons_of_mem _ hx, e1⟩
/-- the factors found so far, and the rest -/
structure FP (n0 n : Nat) (L : List (Nat × Nat)) : Prop where
  pr : QR.pr (exL L) * n = n0
  ok : ∀ x ∈ L, QR.Prime x.1 ∧ x.1 ≤ 100000 ∧ x.2 ≤ 200000
theorem FP.step {n0 n n' d j : Nat} {L : List (Nat × Nat)} (H : FP n0 n L) (hd : QR.Prime d) (hd2 : d ≤ 100000) (hj : j ≤ 200000) (hn : n = d ^ j * n') : FP n0 n' (L ++ [(d, j)]) := by
  refine ⟨?_, fun x hx => ?_⟩
  · rw [exL_app, QR.pr_app, pr_rep, Nat.mul_assoc, ← hn, H.pr]
  · rcases List.mem_append.1 hx with h | h
    · exact H.ok x h
    · rw [List.mem_singleton.1 h]; exact ⟨hd, hd2, hj⟩
section
variable {C : CallT} {K : List Fr} {Q : AX → St → Prop}
noncomputable def fxB : ACode := match of65.body with | .seq _ (.seq _ (.seq (.seq _ (.block _ (.loop (.seq _ (.seq (.block _ (.seq _ (.seq _ (.seq (.block _ (.loop b)) _)))) _))))) _)) => b | c => c
noncomputable def rfB : ACode := match of65.body with | .seq _ (.seq _ (.seq (.seq _ (.block _ (.loop b))) _)) => b | c => c
theorem fx_loop {h : AHeap} {d : Nat} {out : AV} (hd : 2 ≤ d) (hd2 : d ≤ 100000) : ∀ (f n k : Nat) (y3 : AV), 1 ≤ n → n < 2 ^ f → n ≤ 100000 → k + n ≤ 200000 →
    (∀ (n' j : Nat) (z3 : AV), n = d ^ j * n' → ¬ d ∣ n' → 1 ≤ n' → n' ≤ n → k + j ≤ 200000 → WX C (.exit 2) K ⟨[.int .i64 (n' : Int), .int .i64 (d : Int), .int .i64 ((k + j : Nat) : Int), z3, out], h⟩ Q) →
    WK C (.loop fxB) K ⟨[.int .i64 (n : Int), .int .i64 (d : Int), .int .i64 (k : Int), y3, out], h⟩ Q
  | 0, n, k, y3, hn, hf, _, _, _ => by simp at hf; omega
  | f + 1, n, k, y3, hn, hf, hn2, hk, hQ => by
    refine WK_loop' (by dsimp only [fxB, of65]) ?_
    by_cases hdv : d ∣ n
    · obtain ⟨q, rfl⟩ := hdv
      have hq : 1 ≤ q := by
        rcases Nat.eq_zero_or_pos q with e | e
        · subst e; omega
        · exact e
      have hdq : 2 * q ≤ d * q := Nat.mul_le_mul_right q hd
      have e1 : (((d * q : Nat)) : Int) % (d : Int) = 0 := by rw [Int.natCast_mul]; exact Int.mul_emod_right _ _
      have e2 : (((d * q : Nat)) : Int) / (d : Int) = (q : Int) := by rw [Int.natCast_mul]; exact Int.mul_ediv_cancel_left _ (by omega)
      simp (disch := omega) only [RSd.down, rem_pos, e1, eql_int, decide_true, quo_pos, e2, add_i64, show (k : Int) + 1 = ((k + 1 : Nat) : Int) from rfl]
      refine fx_loop hd hd2 f q (k + 1) _ hq (by rw [Nat.pow_succ] at hf; omega) (by omega) (by omega) ?_
      intro n' j z3 a1 a2 a3 a4 a5
      have := hQ n' (j + 1) z3 (by rw [a1, Nat.pow_succ, Nat.mul_comm (d ^ j) d, Nat.mul_assoc]) a2 a3 (by omega) (by omega)
      rw [show k + 1 + j = k + (j + 1) by omega]
      exact this
    · have e1 : ¬ (n : Int) % (d : Int) = 0 := by
        intro e; exact hdv (Nat.dvd_of_mod_eq_zero (by omega))
      simp (disch := omega) only [RSd.down, rem_pos, e1, eql_int, decide_false]
      exact hQ n 0 (.bool false) (by simp) hdv hn (Nat.le_refl _) (by omega)
theorem rf_loop {n0 : Nat} : ∀ (f d n : Nat) (L : List (Nat × Nat)) (h : AHeap) (out y2 y3 : AV), 2 ≤ d → d + f = 400 → 1 ≤ n → n ≤ 100000 → NoDiv d n → FP n0 n L → LJ h out L → L.length ≤ d →
    (∀ (h' : AHeap) (out' z0 z1 z2 z3 : AV) (L' : List (Nat × Nat)), FP n0 1 L' → LJ h' out' L' → L'.length ≤ 1000 → WX C (.exit 0) K ⟨[z0, z1, z2, z3, out'], h'⟩ Q) →
    WK C (.loop rfB) K ⟨[.int .i64 (n : Int), .int .i64 (d : Int), y2, y3, out], h⟩ Q := by
  have done : ∀ (d : Int) (L : List (Nat × Nat)) (h : AHeap) (out y2 y3 : AV), FP n0 1 L → LJ h out L → L.length ≤ 1000 →
      (∀ (h' : AHeap) (out' z0 z1 z2 z3 : AV) (L' : List (Nat × Nat)), FP n0 1 L' → LJ h' out' L' → L'.length ≤ 1000 → WX C (.exit 0) K ⟨[z0, z1, z2, z3, out'], h'⟩ Q) →
      WK C (.loop rfB) K ⟨[.int .i64 1, .int .i64 d, y2, y3, out], h⟩ Q := by
    intro d L h out y2 y3 H1 H2 H3 hQ
    refine WK_loop' (by dsimp only [rfB, of65]) ?_
    simp only [RSd.down, gtr_int, show decide ((1 : Int) < 1) = false from rfl]
    exact hQ _ _ _ _ _ _ L H1 H2 H3
  intro f
  induction f with
  | zero =>
    intro d n L h out y2 y3 h1 h2 h3 h4 hN H1 H2 H3 hQ
    have hd : d = 400 := by omega
    subst hd
    by_cases hn : n = 1
    · subst hn
      exact done _ L h out y2 y3 H1 H2 (by omega) hQ
    · have hp : isP n := isP_of_noDiv hN (by omega) (by omega)
      refine WK_loop' (by dsimp only [rfB, of65]) ?_
      have e1 : ((1 : Int) < (n : Int)) = True := eq_true (by omega)
      have e2 : (((400 : Nat) : Int) * ((400 : Nat) : Int)) = 160000 := rfl
      have e3 : ((n : Int) < 160000) = True := eq_true (by omega)
      simp (disch := omega) only [RSd.down, gtr_int, e1, decide_true, mul_i64, e2, e3]
      refine fx_loop (d := n) (by omega) h4 17 n 0 _ h3 (by omega) h4 (by omega) ?_
      intro n' j z3 a1 a2 a3 a4 a5
      rw [Nat.zero_add] at *
      have hj : j ≠ 0 := by
        intro e; subst e
        rw [Nat.pow_zero, Nat.one_mul] at a1
        exact a2 (by rw [← a1]; exact Nat.dvd_refl _)
      have hn' : n' = 1 := by
        have e2 : n ≤ n ^ j := Nat.le_self_pow hj n
        have e3 : n * n' ≤ n ^ j * n' := Nat.mul_le_mul_right n' e2
        rw [← a1] at e3
        rcases Nat.lt_or_ge 1 n' with e4 | e4
        · have : n * 2 ≤ n * n' := Nat.mul_le_mul_left n e4
          omega
        · omega
      subst hn'
      have H1' := H1.step hp.prime h4 a5 a1
      have e4 : ((0 : Int) < (j : Int)) = True := eq_true (by omega)
      have hbld : ∀ tm : List AV, nth tm 1 = .int .i64 (n : Int) → nth tm 2 = .int .i64 (j : Int) → evalQ (.build [.int .i64 0, .int .i64 0] [(0, 1, .tmp 1), (1, 1, .tmp 2)]) tm h = some (.agg [.int .i64 (n : Int), .int .i64 (j : Int)]) := by
        intro tm t1 t2
        rw [evalQ_build]; simp only [fills, ev_tmp, t1, t2]; rfl
      obtain ⟨b', h', ea, H2'⟩ := H2.app n j (by omega)
      simp only [RSd.down, gtr_int, e4, decide_true]
      rw [hbld _ rfl rfl]
      simp only [RSd.down]
      rw [show evalA (.bslice 1 2 [.int .i64 0, .int .i64 0] [(0, .tmp 2)]) [.int .i64 ((1 : Nat) : Int), .int .i64 (n : Int), .agg [.int .i64 (n : Int), .int .i64 (j : Int)], .bool true, out] h = some (.cells [.int .i64 (n : Int), .int .i64 (j : Int)] true, .slice h.next 0 1 (.exact 1)) from rfl]
      simp (disch := omega) only [RSd.down, ea, add_i64]
      exact done _ _ _ _ _ _ H1' H2' (by simp; omega) hQ
  | succ f ih =>
    intro d n L h out y2 y3 h1 h2 h3 h4 hN H1 H2 H3 hQ
    by_cases hn : n = 1
    · subst hn
      exact done _ L h out y2 y3 H1 H2 (by omega) hQ
    · refine WK_loop' (by dsimp only [rfB, of65]) ?_
      have e1 : ((1 : Int) < (n : Int)) = True := eq_true (by omega)
      have e2 : (d : Int) * (d : Int) = ((d * d : Nat) : Int) := (Int.natCast_mul _ _).symm
      have hdd : d * d ≤ 400 * 400 := Nat.mul_le_mul (by omega) (by omega)
      by_cases hlt : n < d * d
      · have hp : isP n := isP_of_noDiv hN hlt (by omega)
        have e3 : ((n : Int) < ((d * d : Nat) : Int)) = True := eq_true (by omega)
        simp (disch := omega) only [RSd.down, gtr_int, e1, decide_true, mul_i64, e2, e3]
        refine fx_loop (d := n) (by omega) h4 17 n 0 _ h3 (by omega) h4 (by omega) ?_
        intro n' j z3 a1 a2 a3 a4 a5
        rw [Nat.zero_add] at *
        have hj : j ≠ 0 := by
          intro e; subst e
          rw [Nat.pow_zero, Nat.one_mul] at a1
          exact a2 (by rw [← a1]; exact Nat.dvd_refl _)
        have hn' : n' = 1 := by
          have e2 : n ≤ n ^ j := Nat.le_self_pow hj n
          have e3 : n * n' ≤ n ^ j * n' := Nat.mul_le_mul_right n' e2
          rw [← a1] at e3
          rcases Nat.lt_or_ge 1 n' with e4 | e4
          · have : n * 2 ≤ n * n' := Nat.mul_le_mul_left n e4
            omega
          · omega
        subst hn'
        have H1' := H1.step hp.prime h4 a5 a1
        have e4 : ((0 : Int) < (j : Int)) = True := eq_true (by omega)
        have hbld : ∀ tm : List AV, nth tm 1 = .int .i64 (n : Int) → nth tm 2 = .int .i64 (j : Int) → evalQ (.build [.int .i64 0, .int .i64 0] [(0, 1, .tmp 1), (1, 1, .tmp 2)]) tm h = some (.agg [.int .i64 (n : Int), .int .i64 (j : Int)]) := by
          intro tm t1 t2
          rw [evalQ_build]; simp only [fills, ev_tmp, t1, t2]; rfl
        obtain ⟨b', h', ea, H2'⟩ := H2.app n j (by omega)
        simp only [RSd.down, gtr_int, e4, decide_true]
        rw [hbld _ rfl rfl]
        simp only [RSd.down]
        rw [show evalA (.bslice 1 2 [.int .i64 0, .int .i64 0] [(0, .tmp 2)]) [.int .i64 ((1 : Nat) : Int), .int .i64 (n : Int), .agg [.int .i64 (n : Int), .int .i64 (j : Int)], .bool true, out] h = some (.cells [.int .i64 (n : Int), .int .i64 (j : Int)] true, .slice h.next 0 1 (.exact 1)) from rfl]
        simp (disch := omega) only [RSd.down, ea, add_i64]
        exact done _ _ _ _ _ _ H1' H2' (by simp; omega) hQ
      · have e3 : ((n : Int) < ((d * d : Nat) : Int)) = False := eq_false (by omega)
        simp (disch := omega) only [RSd.down, gtr_int, e1, decide_true, decide_false, mul_i64, e2, e3]
        refine fx_loop (d := d) h1 (by omega) 17 n 0 _ h3 (by omega) h4 (by omega) ?_
        intro n' j z3 a1 a2 a3 a4 a5
        rw [Nat.zero_add] at *
        have hN' : NoDiv (d + 1) n' := by
          intro e g1 g2 hx
          rcases Nat.lt_or_ge e d with g3 | g3
          · exact hN e g1 g3 (Nat.dvd_trans hx (by rw [a1]; exact Nat.dvd_mul_left _ _))
          · have : e = d := by omega
            subst this; exact a2 hx
        by_cases hj : j = 0
        · subst hj
          have hnn : n = n' := by rw [a1, Nat.pow_zero, Nat.one_mul]
          subst hnn
          have e4 : ((0 : Int) < ((0 : Nat) : Int)) = False := eq_false (by omega)
          simp (disch := omega) only [RSd.down, gtr_int, e4, decide_false, add_i64, show (d : Int) + 1 = ((d + 1 : Nat) : Int) from rfl]
          exact ih (d + 1) n L h out _ _ (by omega) (by omega) h3 h4 hN' H1 H2 (by omega) hQ
        · have hp : isP d := isP_of_dvd h1 hN (by
            rw [a1]; exact Nat.dvd_trans ⟨d ^ (j - 1), by rw [← Nat.pow_succ']; congr 1; omega⟩ (Nat.dvd_mul_right _ n'))
          have H1' := H1.step hp.prime (by omega) a5 a1
          have e4 : ((0 : Int) < (j : Int)) = True := eq_true (by omega)
          have hbld : ∀ tm : List AV, nth tm 1 = .int .i64 (d : Int) → nth tm 2 = .int .i64 (j : Int) → evalQ (.build [.int .i64 0, .int .i64 0] [(0, 1, .tmp 1), (1, 1, .tmp 2)]) tm h = some (.agg [.int .i64 (d : Int), .int .i64 (j : Int)]) := by
            intro tm t1 t2
            rw [evalQ_build]; simp only [fills, ev_tmp, t1, t2]; rfl
          obtain ⟨b', h', ea, H2'⟩ := H2.app d j (by omega)
          simp only [RSd.down, gtr_int, e4, decide_true]
          rw [hbld _ rfl rfl]
          simp only [RSd.down]
          rw [show evalA (.bslice 1 2 [.int .i64 0, .int .i64 0] [(0, .tmp 2)]) [.int .i64 (n' : Int), .int .i64 (d : Int), .agg [.int .i64 (d : Int), .int .i64 (j : Int)], .bool true, out] h = some (.cells [.int .i64 (d : Int), .int .i64 (j : Int)] true, .slice h.next 0 1 (.exact 1)) from rfl]
          simp (disch := omega) only [RSd.down, ea, add_i64, show (d : Int) + 1 = ((d + 1 : Nat) : Int) from rfl]
          exact ih (d + 1) n' _ h' b' _ _ (by omega) (by omega) a3 (by omega) hN' H1' H2' (by simp; omega) hQ
end
/-- the reference's factors -/
theorem rfac_spec {I : Oracle} (hI : ∀ a h, I 65 a h = none) {n0 : Nat} (h1 : 1 ≤ n0) (h2 : n0 ≤ 100000) (h : AHeap) :
    ∃ b h', lim otab.get I (.fn 65) [.int .i64 (n0 : Int)] h = some (b, h') ∧ ∃ L : List (Nat × Nat), FP n0 1 L ∧ LJ h' b L ∧ L.length ≤ 1000 := by
  refine lim_walk_ex (T := otab.get) (I := I) (fn := of65) (f := 65) rfl (P := fun b h' => ∃ L : List (Nat × Nat), FP n0 1 L ∧ LJ h' b L ∧ L.length ≤ 1000) (hI _ _) ?_
  show WK _ _ [] ⟨[.int .i64 (n0 : Int), aundef, aundef, aundef, aundef], h⟩ _
  dsimp only [of65]
  simp only [RSd.down]
  refine rf_loop (n0 := n0) 398 2 n0 [] h .nils _ _ (Nat.le_refl _) rfl h1 h2 (fun e g1 g2 => by omega) ⟨Nat.one_mul _, fun x hx => nomatch hx⟩ ⟨.inl ⟨rfl, rfl⟩⟩ (by decide) ?_
  intro h' out' z0 z1 z2 z3 L H1 H2 H3
  simp only [RSd.down]
  exact ⟨(fun i hi => by cases hi), out', rfl, L, H1, H2, H3⟩
end Go.AM
namespace Go.AM
open Go
def faddW (k : Nat) (x : AV) : Option AV := match x with | .ptr i o => some (.ptr i (o + k)) | _ => none
theorem evalQ_faddw {k : Nat} {x : AOpd} {tm : List AV} {h : AHeap} : evalQ (.faddr k x) tm h = faddW k (ev tm x) := rfl
theorem faddW_ptr {k i o : Nat} : faddW k (.ptr i o) = some (.ptr i (o + k)) := rfl
theorem flat2_get : ∀ (L : List (Nat × Nat)) (i : Nat) (hi : i < L.length), (flat2 L)[i * 2]? = some (.int .i64 (L[i].1 : Int)) ∧ (flat2 L)[i * 2 + 1]? = some (.int .i64 (L[i].2 : Int))
  | (p, e) :: r, 0, _ => ⟨rfl, rfl⟩
  | (p, e) :: r, i + 1, h => by
    have ih := flat2_get r i (by simpa using h)
    have e1 : (i + 1) * 2 = i * 2 + 1 + 1 := by omega
    refine ⟨?_, ?_⟩
    · rw [e1]; exact ih.1
    · rw [e1]; exact ih.2
section
variable {K : List Fr} {Q : AX → St → Prop} {h : AHeap}
noncomputable def krI : ACode := match of37.body with | .seq _ (.seq _ (.seq _ (.seq _ (.seq _ (.seq (.seq _ (.block _ (.loop (.seq _ (.seq (.block _ (.seq _ (.block _ (.loop b)))) _))))) _))))) => b | c => c
noncomputable def krB : ACode := match of37.body with | .seq _ (.seq _ (.seq _ (.seq _ (.seq _ (.seq (.seq _ (.block _ (.loop b))) _))))) => b | c => c
theorem krI_loop {d : Int} {L : List (Nat × Nat)} {j i : Nat} (hc : cellsOf h j = some (flat2 L)) (hi : i < L.length) (hl : L.length ≤ 1000) (hp : QR.Prime L[i].1) (hp2 : L[i].1 ≤ 100000) (he : L[i].2 ≤ 200000) : ∀ (f k : Nat) (o : Int) (y5 : AV), k + f = L[i].2 → unit1 o →
    (∀ (o' : Int) (z1 z5 : AV), o' = o * QR.kron d (List.replicate f L[i].1) → unit1 o' → WX (lim otab.get N6) (.exit 2) K ⟨[.int .i64 d, z1, .int .i64 (i : Int), .slice j 0 L.length (.opn 2), .int .i64 o', z5], h⟩ Q) →
    WK (lim otab.get N6) (.loop krI) K ⟨[.int .i64 d, .int .i64 (k : Int), .int .i64 (i : Int), .slice j 0 L.length (.opn 2), .int .i64 o, y5], h⟩ Q := by
  intro f
  obtain ⟨g1, g2⟩ := flat2_get L i hi
  have l1 : loadV none (.ptr j (0 + i * 2 + 1)) h = some (.int .i64 (L[i].2 : Int)) := loadV_at hc (by rw [Nat.zero_add]; exact g2)
  have l0 : loadV none (.ptr j (0 + i * 2 + 0)) h = some (.int .i64 (L[i].1 : Int)) := loadV_at hc (by rw [Nat.zero_add, Nat.add_zero]; exact g1)
  generalize L[i].2 = e at *
  generalize L[i].1 = p at *
  induction f with
  | zero =>
    intro k o y5 hf ho hQ
    refine WK_loop' (by dsimp only [krI, of37]) ?_
    have e1 : ((k : Int) < (e : Int)) = False := eq_false (by omega)
    simp (disch := omega) only [RSd.down, iaddrV_ok, WOs_faddr, evalQ_faddw, faddW_ptr, l1, lss_int, e1, decide_false]
    exact hQ o _ _ (by show o = o * 1; omega) ho
  | succ f ih =>
    intro k o y5 hf ho hQ
    refine WK_loop' (by dsimp only [krI, of37]) ?_
    have e1 : ((k : Int) < (e : Int)) = True := eq_true (by omega)
    have hk : unit1 (QR.kp d p) := by rcases QR.kp_tri (d := d) hp with e | e | e <;> rw [e] <;> exact ⟨by decide, by decide⟩
    have ho2 := mul_unit ho hk
    have hp1 : 1 ≤ p := by have := hp.1; omega
    obtain ⟨u1, u2⟩ := ho2
    simp (disch := omega) only [RSd.down, iaddrV_ok, WOs_faddr, evalQ_faddw, faddW_ptr, l1, l0, lss_int, e1, decide_true, c_kp hp1 (show p ≤ 1000000 by omega), mul_i64, add_i64, show (k : Int) + 1 = ((k + 1 : Nat) : Int) from rfl]
    refine ih (k + 1) (o * QR.kp d p) _ (by omega) ⟨u1, u2⟩ ?_
    intro o' z1 z5 h1 h2
    refine hQ o' z1 z5 ?_ h2
    rw [h1, List.replicate_succ]
    show _ = o * (QR.kp d p * _)
    rw [Int.mul_assoc]
theorem krB_loop {d : Int} {L : List (Nat × Nat)} {j : Nat} (hc : cellsOf h j = some (flat2 L)) (hl : L.length ≤ 1000) (hok : ∀ x ∈ L, QR.Prime x.1 ∧ x.1 ≤ 100000 ∧ x.2 ≤ 200000) : ∀ (f i : Nat) (o : Int) (y1 y5 : AV), i + f = L.length → unit1 o →
    (∀ (o' : Int) (z1 z2 z5 : AV), o' = o * QR.kron d (exL (L.drop i)) → WX (lim otab.get N6) (.exit 0) K ⟨[.int .i64 d, z1, z2, .slice j 0 L.length (.opn 2), .int .i64 o', z5], h⟩ Q) →
    WK (lim otab.get N6) (.loop krB) K ⟨[.int .i64 d, y1, .int .i64 (i : Int), .slice j 0 L.length (.opn 2), .int .i64 o, y5], h⟩ Q := by
  intro f
  have ll : lenV 1 (.slice j 0 L.length (.opn 2)) h = some (.int .i64 (L.length : Int)) := rfl
  induction f with
  | zero =>
    intro i o y1 y5 hf ho hQ
    refine WK_loop' (by dsimp only [krB, of37]) ?_
    have e1 : ((i : Int) < (L.length : Int)) = False := eq_false (by omega)
    have e2 : L.drop i = [] := List.drop_eq_nil_of_le (by omega)
    rw [e2] at hQ
    simp only [RSd.down, ll, lss_int, e1, decide_false]
    exact hQ o _ _ _ (by show o = o * 1; omega)
  | succ f ih =>
    intro i o y1 y5 hf ho hQ
    refine WK_loop' (by dsimp only [krB, of37]) ?_
    have hi : i < L.length := by omega
    have e1 : ((i : Int) < (L.length : Int)) = True := eq_true (by omega)
    obtain ⟨p1, p2, p3⟩ := hok L[i] (List.getElem_mem hi)
    have e2 : L.drop i = (L[i].1, L[i].2) :: L.drop (i + 1) := List.drop_eq_getElem_cons hi
    rw [e2] at hQ
    simp only [RSd.down, ll, lss_int, e1, decide_true]
    refine krI_loop hc hi hl p1 p2 p3 L[i].2 0 o _ (by omega) ho ?_
    intro o' z1 z5 h1 h2
    simp (disch := omega) only [RSd.down, add_i64, show (i : Int) + 1 = ((i + 1 : Nat) : Int) from rfl]
    refine ih (i + 1) o' _ _ (by omega) h2 ?_
    intro o'' z1 z2 z5 h3
    refine hQ o'' z1 z2 z5 ?_
    rw [h3, h1]
    show _ = o * QR.kron d (List.replicate L[i].2 L[i].1 ++ exL (L.drop (i + 1)))
    rw [QR.kron_app, Int.mul_assoc]
end
theorem c_abs6 {h : AHeap} {n : Int} (h1 : -1000000 ≤ n) (h2 : n ≤ 1000000) : lim otab.get N6 (.fn 44) [.int .i64 n] h = some (.int .i64 (n.natAbs : Int), h) := lim_oracle (or_hit (spec := absS) (by unfold absS; first | exact if_pos ⟨by omega, by omega⟩ | rfl))
theorem exL_primes {n0 : Nat} {L : List (Nat × Nat)} (H : FP n0 1 L) : (∀ p ∈ exL L, QR.Prime p) ∧ QR.pr (exL L) = n0 := by
  refine ⟨fun p hp => ?_, by have := H.pr; omega⟩
  obtain ⟨x, hx, e⟩ := mem_exL hp
  rw [e]; exact (H.ok x hx).1
def krS : List AV → Option AV
  | [.int .i64 d, .int .i64 n] => if -100000 ≤ d ∧ d ≤ 100000 ∧ -100000 ≤ n ∧ n ≤ 100000 then some (.int .i64 (QR.K d n)) else none
  | _ => none
theorem rkr_run {d n : Int} (h1 : -100000 ≤ d) (h2 : d ≤ 100000) (h3 : -100000 ≤ n) (h4 : n ≤ 100000) : ∃ h', lim otab.get N6 (.fn 37) [.int .i64 d, .int .i64 n] .empty = some (.int .i64 (QR.K d n), h') := by
  refine run_of (fn := of37) rfl rfl ?_
  show WK _ _ [] ⟨[.int .i64 d, .int .i64 n, aundef, aundef, aundef, aundef], .empty⟩ _
  dsimp only [of37]
  by_cases h0 : n = 0
  · subst h0
    by_cases hd : d = 1
    · subst hd
      have hk : QR.K 1 0 = 1 := rfl
      simp only [RSd.down, eql_int, decide_true, Ret_ret, result_1, hk]
    · have hk : QR.K d 0 = 0 := by unfold QR.K; rw [if_pos rfl, if_neg hd]
      simp only [RSd.down, eql_int, decide_true, decide_false, hd, Ret_ret, result_1, hk]
  · obtain ⟨b, h', ef, L, H1, H2, H3⟩ := rfac_spec (I := N6) (fun _ _ => rfl) (n0 := n.natAbs) (by omega) (by omega) .empty
    obtain ⟨q1, q2⟩ := exL_primes H1
    have hK := QR.K_ok (d := d) h0 q1 q2
    have hsn : unit1 (QR.sn d n) := by rcases QR.sn_tri (d := d) (n := n) with e | e | e <;> rw [e] <;> exact ⟨by decide, by decide⟩
    have ca := fun h => c_abs6 (h := h) (n := n) (by omega) (by omega)
    have fin : ∀ (o : Int) (y1 y5 : AV) (K : List Fr), o = QR.sn d n → K = [.seq (.seq (.ops [⟨some 2, .mov (.tmp 4), none⟩]) (.ret))] → WK (lim otab.get N6) (.loop krB) (.block 0 :: K) ⟨[.int .i64 d, y1, .int .i64 0, b, .int .i64 o, y5], h'⟩ (Ret [.tmp 2] (.int .i64 (QR.K d n))) := by
      intro o y1 y5 K ho hK'
      subst hK'; subst ho
      rcases H2.val with ⟨e1, e2⟩ | ⟨j, e1, e2, e3, e4⟩
      · subst e1; subst e2
        refine WK_loop' (by dsimp only [krB, of37]) ?_
        have hK2 : QR.K d n = QR.sn d n := by rw [hK]; show QR.sn d n * 1 = _; omega
        have ll : lenV 1 .nils h' = some (.int .i64 0) := rfl
        simp only [RSd.down, ll, lss_int, show decide ((0 : Int) < 0) = false from rfl, Ret_ret, result_1, hK2]
      · subst e1
        refine krB_loop (cellsOf_get e4) H3 H1.ok L.length 0 (QR.sn d n) _ _ (by omega) hsn ?_
        intro o' z1 z2 z5 ho'
        rw [List.drop_zero, ← hK] at ho'
        simp only [RSd.down, Ret_ret, result_1, ho']
    by_cases hn : n < 0
    · by_cases hd : d < 0
      · have hs : QR.sn d n = -1 := by unfold QR.sn; rw [if_pos ⟨hn, hd⟩]
        simp only [RSd.down, eql_int, h0, decide_false, lss_int, hn, hd, decide_true, ca, ef]
        exact fin _ _ _ _ hs.symm rfl
      · have hs : QR.sn d n = 1 := by unfold QR.sn; rw [if_neg (by omega)]
        simp only [RSd.down, eql_int, h0, decide_false, lss_int, hn, hd, decide_true, ca, ef]
        exact fin _ _ _ _ hs.symm rfl
    · have hs : QR.sn d n = 1 := by unfold QR.sn; rw [if_neg (by omega)]
      simp only [RSd.down, eql_int, h0, decide_false, lss_int, hn, ca, ef]
      exact fin _ _ _ _ hs.symm rfl
noncomputable def N7 : Oracle := ext N6 37 krS
theorem N7_ok : IOK Go.Proofs.Try.prog N7 := IOK.extL mixed tabOK otabOK N6_ok (g := 37) (fn := af37) rfl fun args av h => by
  unfold krS at h
  split at h
  · split at h
    · rename_i hn; cases h; exact ⟨rfl, rfl, rkr_run hn.1 hn.2.1 hn.2.2.1 hn.2.2.2⟩
    · cases h
  · cases h
/-- the program's Kronecker: the symbol or an error -/
def kroV (d n : Int) : AV := if bd [d, n] ≠ 0 then .tup [.int .i64 0, .int .i64 (bd [d, n])] else if 1 < d % 4 then .tup [.int .i64 0, .int .i64 3] else .tup [.int .i64 (QR.K d n), .int .i64 0]
def kroS : List AV → Option AV
  | [.int .i64 d, .int .i64 n] => some (kroV d n)
  | _ => none
theorem bd2_cases (d n : Int) : (bd [d, n] = 0 ∧ -100000 ≤ d ∧ d ≤ 100000 ∧ -100000 ≤ n ∧ n ≤ 100000) ∨ bd [d, n] = 4 := by
  rcases lg_cases d with ⟨h1, h2, h3⟩ | ⟨h1, h2⟩ <;> rcases lg_cases n with ⟨g1, g2, g3⟩ | ⟨g1, g2⟩ <;> simp [bd, h1, g1] <;> omega
theorem kro_run (d n : Int) : ∃ h', lim otab.get N7 (.fn 31) [.int .i64 d, .int .i64 n] .empty = some (kroV d n, h') := by
  refine run_of (fn := of31) rfl rfl ?_
  show WK _ _ [] ⟨[.int .i64 d, .int .i64 n, aundef, aundef, aundef], .empty⟩ _
  dsimp only [of31]
  have cb : lim otab.get N7 (.fn 39) [.slice 0 0 2 (.exact 2)] (AHeap.empty.push (.cells [.int .i64 d, .int .i64 n] true)) = some (.int .i64 (bd [d, n]), AHeap.empty.push (.cells [.int .i64 d, .int .i64 n] true)) := bounded_2 (h := .empty) (fun _ _ => rfl)
  have cm : ∀ h, lim otab.get N7 (.fn 41) [.int .i64 d] h = some (.int .i64 (d % 4), h) := fun h => lim_oracle rfl
  simp only [RSd.down]
  rw [bslice2 rfl rfl rfl rfl]
  rcases bd2_cases d n with ⟨hb, b1, b2, b3, b4⟩ | hb
  · have cs : ∀ h, lim otab.get N7 (.fn 64) [.int .i64 d, .int .i64 n] h = some (.int .i64 (QR.K d n), h) := fun h => lim_oracle (or_hit (spec := symS) (if_pos ⟨b1, b2, b3, b4⟩))
    have f00 : ((0 : Int) = 0) = True := by simp
    by_cases h4 : 1 < d % 4
    · have hv : kroV d n = .tup [.int .i64 0, .int .i64 3] := by unfold kroV; rw [hb, if_neg (by decide), if_pos h4]
      simp only [RSd.down, cb, hb, eql_int, decide_true, cm, gtr_int, h4, neq_int, show decide ((3 : Int) ≠ 0) = true from rfl, Ret_ret, result_2, hv]
    · have hv : kroV d n = .tup [.int .i64 (QR.K d n), .int .i64 0] := by unfold kroV; rw [hb, if_neg (by decide), if_neg h4]
      simp only [RSd.down, cb, hb, eql_int, decide_true, cm, gtr_int, h4, decide_false, neq_int, show decide ((0 : Int) ≠ 0) = false from rfl, cs, Ret_ret, result_2, hv]
  · have hv : kroV d n = .tup [.int .i64 0, .int .i64 4] := by unfold kroV; rw [hb, if_pos (by decide)]
    simp only [RSd.down, cb, hb, eql_int, show decide ((4 : Int) = 0) = false from rfl, neq_int, show decide ((4 : Int) ≠ 0) = true from rfl, Ret_ret, result_2, hv]
noncomputable def N8 : Oracle := ext N7 31 kroS
theorem N8_ok : IOK Go.Proofs.Try.prog N8 := IOK.extL mixed tabOK otabOK N7_ok (g := 31) (fn := af31) rfl fun args av h => by
  unfold kroS at h
  split at h
  · rename_i d n
    cases h
    refine ⟨rfl, ?_, kro_run d n⟩
    unfold kroV; split
    · rfl
    · split <;> rfl
  · cases h
/-- Split: the symbol at a prime, or an error -/
noncomputable def splV (d n : Int) : AV := if bd [d, n] ≠ 0 then .tup [.int .i64 0, .int .i64 (bd [d, n])] else if ¬ fundP d then .tup [.int .i64 0, .int .i64 3] else if prE n ≠ 0 then .tup [.int .i64 0, .int .i64 (prE n)] else .tup [.int .i64 (QR.K d n), .int .i64 0]
noncomputable def splS : List AV → Option AV
  | [.int .i64 d, .int .i64 n] => some (splV d n)
  | _ => none
theorem spl_run (d n : Int) : ∃ h', lim otab.get N8 (.fn 35) [.int .i64 d, .int .i64 n] .empty = some (splV d n, h') := by
  refine run_of (fn := of35) rfl rfl ?_
  show WK _ _ [] ⟨[.int .i64 d, .int .i64 n, aundef, aundef, aundef], .empty⟩ _
  dsimp only [of35]
  have cb : lim otab.get N8 (.fn 39) [.slice 0 0 2 (.exact 2)] (AHeap.empty.push (.cells [.int .i64 d, .int .i64 n] true)) = some (.int .i64 (bd [d, n]), AHeap.empty.push (.cells [.int .i64 d, .int .i64 n] true)) := bounded_2 (h := .empty) (fun _ _ => rfl)
  simp only [RSd.down]
  rw [bslice2 rfl rfl rfl rfl]
  rcases bd2_cases d n with ⟨hb, b1, b2, b3, b4⟩ | hb
  · have cs : ∀ h, lim otab.get N8 (.fn 64) [.int .i64 d, .int .i64 n] h = some (.int .i64 (QR.K d n), h) := fun h => lim_oracle (or_hit (spec := symS) (if_pos ⟨b1, b2, b3, b4⟩))
    have cf : ∀ h, lim otab.get N8 (.fn 42) [.int .i64 d] h = some (.bool (decide (fundP d)), h) := fun h => lim_oracle (or_hit (spec := fundS) (if_pos ⟨b1, b2⟩))
    have cp : ∀ h, lim otab.get N8 (.fn 61) [.int .i64 n] h = some (.int .i64 (prE n), h) := fun h => lim_oracle (or_hit (spec := qprimeS) (if_pos ⟨b3, b4⟩))
    by_cases hf : fundP d
    · by_cases hp : prE n = 0
      · have hv : splV d n = .tup [.int .i64 (QR.K d n), .int .i64 0] := by unfold splV; rw [hb, if_neg (by decide), if_neg (fun h => h hf), if_neg (fun h => h hp)]
        simp only [RSd.down, cb, hb, eql_int, decide_true, cf, hf, not_bool, Bool.not_true, cp, hp, neq_int, show decide ((0 : Int) ≠ 0) = false from rfl, cs, Ret_ret, result_2, hv]
      · have hv : splV d n = .tup [.int .i64 0, .int .i64 (prE n)] := by unfold splV; rw [hb, if_neg (by decide), if_neg (fun h => h hf), if_pos hp]
        have hp' : (prE n ≠ 0) = True := eq_true hp
        simp only [RSd.down, cb, hb, eql_int, decide_true, cf, hf, not_bool, Bool.not_true, cp, neq_int, hp', cs, Ret_ret, result_2, hv]
    · have hv : splV d n = .tup [.int .i64 0, .int .i64 3] := by unfold splV; rw [hb, if_neg (by decide), if_pos hf]
      simp only [RSd.down, cb, hb, eql_int, decide_true, cf, hf, decide_false, not_bool, Bool.not_false, show decide ((3 : Int) = 0) = false from rfl, neq_int, show decide ((3 : Int) ≠ 0) = true from rfl, Ret_ret, result_2, hv]
  · have hv : splV d n = .tup [.int .i64 0, .int .i64 4] := by unfold splV; rw [hb, if_pos (by decide)]
    simp only [RSd.down, cb, hb, eql_int, show decide ((4 : Int) = 0) = false from rfl, neq_int, show decide ((4 : Int) ≠ 0) = true from rfl, Ret_ret, result_2, hv]
noncomputable def N9 : Oracle := ext N8 35 splS
theorem N9_ok : IOK Go.Proofs.Try.prog N9 := IOK.extL mixed tabOK otabOK N8_ok (g := 35) (fn := af35) rfl fun args av h => by
  unfold splS at h
  split at h
  · rename_i d n
    cases h
    refine ⟨rfl, ?_, spl_run d n⟩
    unfold splV; split
    · rfl
    · split
      · rfl
      · split <;> rfl
  · cases h
end Go.AM
