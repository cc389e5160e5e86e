/- Fundamental discriminants, discriminants: what the code computes. No condition. -/
import Derived.Test.YtemmnocgkgoegaaQ3
set_option maxRecDepth 100000
set_option linter.unusedSimpArgs false
namespace Go.AM
open Go
def fundP (d : Int) : Prop := d ≠ 0 ∧ d ≠ 1 ∧ ((d % 4 = 1 ∧ (sq d).2 = 1) ∨ (d % 4 = 0 ∧ (sq (d / 4)).2 = 1 ∧ 1 < d / 4 % 4))
instance (d : Int) : Decidable (fundP d) := by unfold fundP; infer_instance
theorem quo4 {e : EqK} {d : Int} (h : d % 4 = 0) (h1 : -100000 ≤ d) (h2 : d ≤ 100000) : bin .quo e (.int .i64 d) (.int .i64 4) = some (.int .i64 (d / 4)) := by
  have hd : d.tdiv 4 = d / 4 := Int.tdiv_eq_ediv_of_dvd (Int.dvd_of_emod_eq_zero h)
  rw [quo_i64 (by decide) (by rw [hd]; omega) (by rw [hd]; omega), hd]
theorem ext_hit {I : Oracle} {g : Nat} {spec : List AV → Option AV} {args : List AV} {av : AV} {h : AHeap} (hs : spec args = some av) : ext I g spec g args h = some (av, h) := by
  have hb : Nat.beq g g = true := Nat.beq_refl g
  unfold ext; rw [hb, hs]; rfl
theorem modS4 {n : Int} : modS [.int .i64 n, .int .i64 4] = some (.int .i64 (n % 4)) := by simp [modS]
theorem sq_cast (n : Int) : (((sq n).2 : Nat) : Int) = 1 ↔ (sq n).2 = 1 := by omega
section
variable {h : AHeap}
theorem c_part7 {n : Int} (h0 : n ≠ 0) (h1 : -100000 ≤ n) (h2 : n ≤ 100000) : lim otab.get I7 (.fn 40) [.int .i64 n] h = some (.tup [.int .i64 (sq n).1, .int .i64 ((sq n).2 : Int)], h) :=
  lim_oracle (or_hit (spec := partS) (if_pos ⟨h0, h1, h2⟩))
theorem c_mod4_7 {n : Int} : lim otab.get I7 (.fn 41) [.int .i64 n] h = some (.int .i64 (n % 4), h) :=
  lim_oracle rfl
end
def fundS : List AV → Option AV
  | [.int .i64 d] => if -100000 ≤ d ∧ d ≤ 100000 then some (.bool (decide (fundP d))) else none
  | _ => none
theorem fund_run {d : Int} (h1 : -100000 ≤ d) (h2 : d ≤ 100000) : ∃ h', lim otab.get I7 (.fn 42) [.int .i64 d] .empty = some (.bool (decide (fundP d)), h') := by
  refine run_of (fn := of42) rfl rfl ?_
  show WK _ _ [] ⟨[.int .i64 d, aundef, aundef], .empty⟩ _
  dsimp only [of42]
  by_cases e0 : d = 0
  · subst e0
    simp only [RSd.down, eql_int, decide_true, Ret_ret, result_1]; rfl
  by_cases e1 : d = 1
  · subst e1
    simp only [RSd.down, eql_int, decide_true, decide_false, Ret_ret, result_1, show ((1 : Int) = 0) = False from by simp]
    rw [decide_eq_false (show ¬ fundP 1 from fun h => h.2.1 rfl)]
  by_cases e2 : d % 4 = 1
  · simp only [RSd.down, eql_int, e0, e1, e2, decide_true, decide_false, c_mod4_7, c_part7 e0 h1 h2, Ret_ret, result_1]
    have : fundP d ↔ ((sq d).2 : Int) = 1 := by unfold fundP; rw [sq_cast]; omega
    rw [decide_eq_decide.2 this]
  by_cases e3 : d % 4 = 0
  · have m0 : d / 4 ≠ 0 := by omega
    simp only [RSd.down, eql_int, neq_int, e0, e1, e2, e3, decide_true, decide_false, c_mod4_7, ne_eq, not_true_eq_false, quo4 e3 h1 h2, c_part7 m0 (show -100000 ≤ d / 4 by omega) (show d / 4 ≤ 100000 by omega), show ((0 : Int) = 1) = False from by simp]
    by_cases e4 : (sq (d / 4)).2 = 1
    · have e4' : (((sq (d / 4)).2 : Nat) : Int) = 1 := by omega
      simp only [RSd.down, e4', decide_true, gtr_int, c_mod4_7, Ret_ret, result_1]
      have : fundP d ↔ 1 < d / 4 % 4 := by unfold fundP; omega
      rw [decide_eq_decide.2 this]
    · have e4' : ¬ (((sq (d / 4)).2 : Nat) : Int) = 1 := by omega
      simp only [RSd.down, e4', decide_false, Ret_ret, result_1]
      rw [decide_eq_false (show ¬ fundP d by unfold fundP; omega)]
  · simp only [RSd.down, eql_int, neq_int, e0, e1, e2, e3, decide_true, decide_false, c_mod4_7, ne_eq, not_false_eq_true, Ret_ret, result_1]
    rw [decide_eq_false (show ¬ fundP d by unfold fundP; omega)]
noncomputable def I8 : Oracle := ext I7 42 fundS
theorem I8_ok : IOK Go.Proofs.Try.prog I8 := IOK.extL mixed tabOK otabOK I7_ok (g := 42) (fn := af42) rfl fun args av h => by
  unfold fundS at h
  split at h
  · split at h
    · rename_i hn; cases h; exact ⟨rfl, rfl, fund_run hn.1 hn.2⟩
    · cases h
  · cases h
section
variable {h : AHeap}
theorem c_fund8 {d : Int} (h1 : -100000 ≤ d) (h2 : d ≤ 100000) : lim otab.get I8 (.fn 42) [.int .i64 d] h = some (.bool (decide (fundP d)), h) :=
  lim_oracle (or_hit (spec := fundS) (if_pos ⟨h1, h2⟩))
theorem c_sfp8 {n : Int} : lim otab.get I8 (.fn 12) [.int .i64 n] h = some (sfp n, h) := lim_oracle rfl
theorem c_mod4_8 {n : Int} : lim otab.get I8 (.fn 41) [.int .i64 n] h = some (.int .i64 (n % 4), h) := lim_oracle rfl
theorem c_large8 {n : Int} : lim otab.get I8 (.fn 16) [.int .i64 n] h = some (.int .i64 (lg n), h) := lim_oracle rfl
theorem c_rpart8 {n : Int} (h0 : n ≠ 0) (h1 : -100000 ≤ n) (h2 : n ≤ 100000) : lim otab.get I8 (.fn 18) [.int .i64 n] h = some (.tup [.int .i64 (sq n).1, .int .i64 ((sq n).2 : Int)], h) :=
  lim_oracle (or_hit (spec := partS) (if_pos ⟨h0, h1, h2⟩))
theorem c_rmod8 {n : Int} : lim otab.get I8 (.fn 36) [.int .i64 n, .int .i64 4] h = some (.int .i64 (n % 4), h) :=
  lim_oracle (Eq.trans (b := I5 36 [.int .i64 n, .int .i64 4] h) rfl (ext_hit modS4))
end
/-- Discriminant -/
def dsc (n : Int) : AV := if lg n = 0 then (if n = 0 then .tup [.int .i64 0, .int .i64 6] else if (sq n).1 = 1 then .tup [.int .i64 0, .int .i64 26] else if (sq n).1 % 4 = 1 then .tup [.int .i64 (sq n).1, .int .i64 0] else .tup [.int .i64 (4 * (sq n).1), .int .i64 0]) else .tup [.int .i64 0, .int .i64 4]
def dscS : List AV → Option AV
  | [.int .i64 n] => some (dsc n)
  | _ => none
theorem dsc_run (n : Int) : ∃ h', lim otab.get I8 (.fn 13) [.int .i64 n] .empty = some (dsc n, h') := by
  refine run_of (fn := of13) rfl rfl ?_
  show WK _ _ [] ⟨[.int .i64 n, aundef, aundef, aundef], .empty⟩ _
  dsimp only [of13]
  simp only [RSd.down, c_sfp8]
  unfold dsc sfp
  have f60 : ((6 : Int) = 0) = False := by simp
  have f40 : ((4 : Int) = 0) = False := by simp
  have f26 : ((26 : Int) = 0) = False := by simp
  rcases lg_cases n with ⟨hl, hb1, hb2⟩ | ⟨hl, hb⟩
  · by_cases h0 : n = 0
    · subst h0
      simp only [hl, if_true, RSd.down, eql_int, neq_int, f60, decide_false, decide_true, ne_eq, not_false_eq_true, Ret_ret, result_2]
    · have hd := sq_ok h0 hb1 hb2
      have hln := hd.ln
      by_cases h1 : (sq n).1 = 1
      · simp only [hl, h0, h1, if_true, if_false, RSd.down, eql_int, neq_int, f26, decide_false, decide_true, ne_eq, not_false_eq_true, Ret_ret, result_2]
      · by_cases h2 : (sq n).1 % 4 = 1
        · simp only [hl, h0, h1, h2, if_true, if_false, RSd.down, eql_int, neq_int, decide_false, decide_true, ne_eq, not_true_eq_false, c_mod4_8, Ret_ret, result_2]
        · simp (disch := omega) only [hl, h0, h1, h2, if_true, if_false, RSd.down, eql_int, neq_int, decide_false, decide_true, ne_eq, not_true_eq_false, c_mod4_8, mul_i64, Ret_ret, result_2]
  · simp only [hl, if_false, RSd.down, eql_int, neq_int, f40, decide_false, decide_true, ne_eq, not_false_eq_true, Ret_ret, result_2]
noncomputable def I9 : Oracle := ext I8 13 dscS
theorem I9_ok : IOK Go.Proofs.Try.prog I9 := IOK.extL mixed tabOK otabOK I8_ok (g := 13) (fn := af13) rfl fun args av h => by
  unfold dscS at h
  split at h
  · rename_i n
    cases h
    refine ⟨rfl, ?_, dsc_run n⟩
    unfold dsc; split
    · split
      · rfl
      · split
        · rfl
        · split <;> rfl
    · rfl
  · cases h

def isFundS : List AV → Option AV
  | [.int .i64 n] => some (.bool (decide (lg n = 0 ∧ fundP n)))
  | _ => none
theorem isFund_run (n : Int) : ∃ h', lim otab.get I9 (.fn 14) [.int .i64 n] .empty = some (.bool (decide (lg n = 0 ∧ fundP n)), h') := by
  refine run_of (fn := of14) rfl rfl ?_
  show WK _ _ [] ⟨[.int .i64 n, aundef], .empty⟩ _
  dsimp only [of14]
  have hI : ∀ a h, I9 39 a h = none := fun _ _ => rfl
  simp only [RSd.down]
  rw [bslice1 (v := .int .i64 n) rfl rfl]
  simp only [RSd.down, bounded_1e hI, eql_int]
  have f40 : ((4 : Int) = 0) = False := by simp
  rcases lg_cases n with ⟨hl, hb1, hb2⟩ | ⟨hl, hb⟩
  · have c : ∀ h, lim otab.get I9 (.fn 42) [.int .i64 n] h = some (.bool (decide (fundP n)), h) := fun h => lim_oracle (or_hit (spec := fundS) (if_pos ⟨hb1, hb2⟩))
    simp only [hl, RSd.down, decide_true, c, Ret_ret, result_1, true_and]
  · simp only [hl, RSd.down, f40, decide_false, Ret_ret, result_1, false_and]
noncomputable def I10 : Oracle := ext I9 14 isFundS
theorem I10_ok : IOK Go.Proofs.Try.prog I10 := IOK.extL mixed tabOK otabOK I9_ok (g := 14) (fn := af14) rfl fun args av h => by
  unfold isFundS at h
  split at h
  · rename_i n; cases h; exact ⟨rfl, rfl, isFund_run n⟩
  · cases h
section
variable {h : AHeap}
theorem c_large10 {n : Int} : lim otab.get I10 (.fn 16) [.int .i64 n] h = some (.int .i64 (lg n), h) := lim_oracle rfl
theorem c_rpart10 {n : Int} (h0 : n ≠ 0) (h1 : -100000 ≤ n) (h2 : n ≤ 100000) : lim otab.get I10 (.fn 18) [.int .i64 n] h = some (.tup [.int .i64 (sq n).1, .int .i64 ((sq n).2 : Int)], h) :=
  lim_oracle (or_hit (spec := partS) (if_pos ⟨h0, h1, h2⟩))
theorem c_rmod10 {n : Int} : lim otab.get I10 (.fn 36) [.int .i64 n, .int .i64 4] h = some (.int .i64 (n % 4), h) :=
  lim_oracle (Eq.trans (b := I5 36 [.int .i64 n, .int .i64 4] h) rfl (ext_hit modS4))
end
theorem risFund_run (d : Int) : ∃ h', lim otab.get I10 (.fn 15) [.int .i64 d] .empty = some (.bool (decide (lg d = 0 ∧ fundP d)), h') := by
  refine run_of (fn := of15) rfl rfl ?_
  show WK _ _ [] ⟨[.int .i64 d, aundef, aundef], .empty⟩ _
  dsimp only [of15]
  have f40 : ((4 : Int) = 0) = False := by simp
  rcases lg_cases d with ⟨hl, h1, h2⟩ | ⟨hl, hb⟩
  · by_cases e0 : d = 0
    · simp only [e0, RSd.down, eql_int, neq_int, c_large10, show lg 0 = 0 from rfl, ne_eq, not_true_eq_false, decide_true, decide_false, Ret_ret, result_1]; rfl
    by_cases e1 : d = 1
    · simp only [e1, RSd.down, eql_int, neq_int, c_large10, show lg 1 = 0 from rfl, ne_eq, not_true_eq_false, decide_true, decide_false, Ret_ret, result_1, show ((1 : Int) = 0) = False from by simp]
      rw [decide_eq_false (show ¬ (True ∧ fundP 1) from fun h => h.2.2.1 rfl)]
    simp only [RSd.down, eql_int, neq_int, c_large10, hl, ne_eq, not_true_eq_false, e0, e1, decide_true, decide_false, c_rpart10 e0 h1 h2, c_rmod10, true_and]
    by_cases e2 : d % 4 = 1
    · simp only [e2, RSd.down, eql_int, decide_true, Ret_ret, result_1]
      have : fundP d ↔ ((sq d).2 : Int) = 1 := by unfold fundP; rw [sq_cast]; omega
      rw [decide_eq_decide.2 this]
    by_cases e3 : d % 4 = 0
    · have m0 : d / 4 ≠ 0 := by omega
      simp only [RSd.down, eql_int, neq_int, e3, decide_true, decide_false, c_rmod10, ne_eq, not_true_eq_false, quo4 e3 h1 h2, c_rpart10 m0 (show -100000 ≤ d / 4 by omega) (show d / 4 ≤ 100000 by omega), show ((0 : Int) = 1) = False from by simp]
      by_cases e4 : (sq (d / 4)).2 = 1
      · have e4' : (((sq (d / 4)).2 : Nat) : Int) = 1 := by omega
        obtain ⟨q1, q2⟩ := sq_one m0 e4
        simp only [RSd.down, e4', decide_true, neq_int, c_rmod10, Ret_ret, result_1, q1]
        have : fundP d ↔ ¬ d / 4 % 4 = 1 := by unfold fundP; omega
        rw [decide_eq_decide.2 this]
      · have e4' : ¬ (((sq (d / 4)).2 : Nat) : Int) = 1 := by omega
        simp only [RSd.down, e4', decide_false, Ret_ret, result_1]
        rw [decide_eq_false (show ¬ fundP d by unfold fundP; omega)]
    · simp only [RSd.down, eql_int, neq_int, e2, e3, decide_true, decide_false, c_rmod10, ne_eq, not_false_eq_true, Ret_ret, result_1]
      rw [decide_eq_false (show ¬ fundP d by unfold fundP; omega)]
  · simp only [RSd.down, eql_int, neq_int, c_large10, hl, f40, ne_eq, not_false_eq_true, decide_true, Ret_ret, result_1, false_and, decide_false]
noncomputable def I11 : Oracle := ext I10 15 isFundS
theorem I11_ok : IOK Go.Proofs.Try.prog I11 := IOK.extL mixed tabOK otabOK I10_ok (g := 15) (fn := af15) rfl fun args av h => by
  unfold isFundS at h
  split at h
  · rename_i n; cases h; exact ⟨rfl, rfl, risFund_run n⟩
  · cases h

def rdscS : List AV → Option AV
  | [.int .i64 n] => if n ≠ 0 ∧ -100000 ≤ n ∧ n ≤ 100000 then some (.int .i64 (if (sq n).1 % 4 = 1 then (sq n).1 else 4 * (sq n).1)) else none
  | _ => none
theorem rdsc_run {n : Int} (h0 : n ≠ 0) (h1 : -100000 ≤ n) (h2 : n ≤ 100000) : ∃ h', lim otab.get I11 (.fn 19) [.int .i64 n] .empty = some (.int .i64 (if (sq n).1 % 4 = 1 then (sq n).1 else 4 * (sq n).1), h') := by
  refine run_of (fn := of19) rfl rfl ?_
  show WK _ _ [] ⟨[.int .i64 n, aundef], .empty⟩ _
  dsimp only [of19]
  have c1 : ∀ h, lim otab.get I11 (.fn 18) [.int .i64 n] h = some (.tup [.int .i64 (sq n).1, .int .i64 ((sq n).2 : Int)], h) := fun h => lim_oracle (or_hit (spec := partS) (if_pos ⟨h0, h1, h2⟩))
  have c2 : ∀ (m : Int) h, lim otab.get I11 (.fn 36) [.int .i64 m, .int .i64 4] h = some (.int .i64 (m % 4), h) := fun m h => lim_oracle (Eq.trans (b := I5 36 [.int .i64 m, .int .i64 4] h) rfl (ext_hit modS4))
  have hln := (sq_ok h0 h1 h2).ln
  by_cases e : (sq n).1 % 4 = 1
  · simp only [RSd.down, c1, c2, eql_int, e, decide_true, Ret_ret, result_1, if_true]
  · simp (disch := omega) only [RSd.down, c1, c2, eql_int, e, decide_false, mul_i64, Ret_ret, result_1, if_false]
noncomputable def I12 : Oracle := ext I11 19 rdscS
theorem I12_ok : IOK Go.Proofs.Try.prog I12 := IOK.extL mixed tabOK otabOK I11_ok (g := 19) (fn := af19) rfl fun args av h => by
  unfold rdscS at h
  split at h
  · split at h
    · rename_i hn; cases h; exact ⟨rfl, rfl, rdsc_run hn.1 hn.2.1 hn.2.2⟩
    · cases h
  · cases h
end Go.AM
