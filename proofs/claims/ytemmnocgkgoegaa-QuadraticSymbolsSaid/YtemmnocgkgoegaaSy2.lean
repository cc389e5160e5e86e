/- The reference's Legendre symbol and its factors: what the code computes. No condition. -/
import Derived.Test.YtemmnocgkgoegaaSy
set_option maxRecDepth 100000
set_option linter.unusedSimpArgs false
set_option linter.unusedVariables false
namespace Go.AM
open Go
theorem mod_pow_mul (x y q m : Nat) : (x % m) * (y % m) ^ q % m = x * y ^ q % m := by
  rw [Nat.mul_mod, Nat.mod_mod, ← Nat.pow_mod, ← Nat.mul_mod]
section
variable {C : CallT} {K : List Fr} {Q : AX → St → Prop} {h : AHeap}
noncomputable def powB : ACode := match of107.body with | .seq _ (.seq _ (.seq _ (.seq (.block _ (.loop b)) _))) => b | c => c
theorem pow_loop {m : Nat} (m1 : 1 ≤ m) (m2 : m ≤ 1000000) : ∀ (f a k o : Nat) (y4 : AV), k < 2 ^ f → k ≤ 1000000 → a ≤ m → o < m →
    (∀ z0 z4 : AV, WX C (.exit 0) K ⟨[z0, .int .i64 0, .int .i64 (m : Int), .int .i64 ((o * a ^ k % m : Nat) : Int), z4], h⟩ Q) →
    WK C (.loop powB) K ⟨[.int .i64 (a : Int), .int .i64 (k : Int), .int .i64 (m : Int), .int .i64 (o : Int), y4], h⟩ Q := by
  intro f
  have base : ∀ (a o : Nat) (y4 : AV), o < m → (∀ z0 z4 : AV, WX C (.exit 0) K ⟨[z0, .int .i64 0, .int .i64 (m : Int), .int .i64 ((o * a ^ 0 % m : Nat) : Int), z4], h⟩ Q) →
      WK C (.loop powB) K ⟨[.int .i64 (a : Int), .int .i64 ((0 : Nat) : Int), .int .i64 (m : Int), .int .i64 (o : Int), y4], h⟩ Q := by
    intro a o y4 ho hQ
    refine WK_loop' (by dsimp only [powB, of107]) ?_
    have e1 : ((0 : Int) < ((0 : Nat) : Int)) = False := eq_false (by omega)
    have e2 : o * a ^ 0 % m = o := by rw [Nat.pow_zero, Nat.mul_one, Nat.mod_eq_of_lt ho]
    rw [e2] at hQ
    simp only [RSd.down, gtr_int, e1, decide_false]
    exact hQ _ _
  induction f with
  | zero =>
    intro a k o y4 h1 h2 h3 h4 hQ
    have : k = 0 := by simp at h1; omega
    subst this
    exact base a o y4 h4 hQ
  | succ f ih =>
    intro a k o y4 h1 h2 h3 h4 hQ
    by_cases hk : k = 0
    · subst hk; exact base a o y4 h4 hQ
    · refine WK_loop' (by dsimp only [powB, of107]) ?_
      have e1 : ((0 : Int) < (k : Int)) = True := eq_true (by omega)
      have e2 : (k : Int) / 2 = ((k / 2 : Nat) : Int) := rfl
      have haa : a * a ≤ 1000000 * 1000000 := Nat.mul_le_mul (by omega) (by omega)
      have hoa : o * a ≤ 1000000 * 1000000 := Nat.mul_le_mul (by omega) (by omega)
      have e3 : (a : Int) * (a : Int) = ((a * a : Nat) : Int) := (Int.natCast_mul _ _).symm
      have e4 : (o : Int) * (a : Int) = ((o * a : Nat) : Int) := (Int.natCast_mul _ _).symm
      have e5 : ((a * a : Nat) : Int) % (m : Int) = ((a * a % m : Nat) : Int) := rfl
      have e6 : ((o * a : Nat) : Int) % (m : Int) = ((o * a % m : Nat) : Int) := rfl
      have l1 : a * a % m < m := Nat.mod_lt _ (by omega)
      have l2 : o * a % m < m := Nat.mod_lt _ (by omega)
      have hp : a ^ k = (a * a) ^ (k / 2) * a ^ (k % 2) := by
        rw [← Nat.pow_two, ← Nat.pow_mul, ← Nat.pow_add]; congr 1; omega
      have hk2 : k / 2 < 2 ^ f := by rw [Nat.pow_succ] at h1; omega
      rcases Nat.mod_two_eq_zero_or_one k with e | e
      · have f1 : ((k : Int) % 2 = 1) = False := eq_false (by omega)
        have e7 : o * (a * a % m) ^ (k / 2) % m = o * a ^ k % m := by
          have := mod_pow_mul o (a * a) (k / 2) m
          rw [Nat.mod_eq_of_lt h4] at this
          rw [this, hp, e, Nat.pow_zero, Nat.mul_one]
        rw [← e7] at hQ
        simp (disch := omega) only [RSd.down, gtr_int, e1, decide_true, rem_pos, eql_int, f1, decide_false, mul_i64, e3, e5, quo_pos, e2]
        exact ih (a * a % m) (k / 2) o _ hk2 (by omega) (by omega) h4 hQ
      · have f1 : ((k : Int) % 2 = 1) = True := eq_true (by omega)
        have e7 : (o * a % m) * (a * a % m) ^ (k / 2) % m = o * a ^ k % m := by
          rw [mod_pow_mul, hp, e, Nat.pow_one, Nat.mul_comm ((a * a) ^ (k / 2)) a, Nat.mul_assoc]
        rw [← e7] at hQ
        simp (disch := omega) only [RSd.down, gtr_int, e1, decide_true, rem_pos, eql_int, f1, mul_i64, e4, e6, e3, e5, quo_pos, e2]
        exact ih (a * a % m) (k / 2) (o * a % m) _ hk2 (by omega) (by omega) l2 hQ
end
theorem c_mod_N3 {h : AHeap} {a m : Int} (h0 : 0 < m) (h1 : m ≤ 4611686018427387904) : lim otab.get N3 (.fn 36) [.int .i64 a, .int .i64 m] h = some (.int .i64 (a % m), h) :=
  lim_oracle (or_hit (spec := modS) (if_pos ⟨h0, h1⟩))
def powS : List AV → Option AV
  | [.int .i64 a, .int .i64 k, .int .i64 m] => if 0 ≤ k ∧ k ≤ 1000000 ∧ 1 ≤ m ∧ m ≤ 1000000 then some (.int .i64 (a ^ k.toNat % m)) else none
  | _ => none
theorem pow_run {a : Int} {k m : Nat} (h1 : k ≤ 1000000) (h2 : 1 ≤ m) (h3 : m ≤ 1000000) : ∃ h', lim otab.get N3 (.fn 107) [.int .i64 a, .int .i64 (k : Int), .int .i64 (m : Int)] .empty = some (.int .i64 (a ^ k % (m : Int)), h') := by
  refine run_of (fn := of107) rfl rfl ?_
  show WK _ _ [] ⟨[.int .i64 a, .int .i64 (k : Int), .int .i64 (m : Int), aundef, aundef], .empty⟩ _
  dsimp only [of107]
  have em : ((a % (m : Int)).toNat : Int) = a % (m : Int) := Int.toNat_of_nonneg (Int.emod_nonneg _ (by omega))
  have hlt : a % (m : Int) < m := Int.emod_lt_of_pos a (by omega)
  have e1 : (1 : Int) % (m : Int) = ((1 % m : Nat) : Int) := rfl
  have l1 : 1 % m < m := Nat.mod_lt _ (by omega)
  simp (disch := omega) only [RSd.down, rem_pos, e1, c_mod_N3]
  rw [← em]
  refine pow_loop h2 h3 20 (a % (m : Int)).toNat k (1 % m) _ (by omega) h1 (by omega) l1 ?_
  intro z0 z4
  have e2 : ((1 % m * (a % (m : Int)).toNat ^ k % m : Nat) : Int) = a ^ k % (m : Int) := by
    rw [Nat.mul_mod, Nat.mod_mod, ← Nat.mul_mod, Nat.one_mul]
    rw [Int.natCast_emod, Int.natCast_pow, em]
    refine (QR.emod_eq_of_dvd (QR.pow_sub ?_ k)).symm
    exact QR.dvd_sub_emod a m
  simp only [RSd.down, Ret_ret, result_1, e2]
noncomputable def N4 : Oracle := ext N3 107 powS
theorem N4_ok : IOK Go.Proofs.Try.prog N4 := IOK.extL mixed tabOK otabOK N3_ok (g := 107) (fn := af107) rfl fun args av h => by
  unfold powS at h
  split at h
  · split at h
    · rename_i k m hn
      cases h
      obtain ⟨k, rfl⟩ := Int.eq_ofNat_of_zero_le (show 0 ≤ k by omega)
      obtain ⟨m, rfl⟩ := Int.eq_ofNat_of_zero_le (show 0 ≤ m by omega)
      exact ⟨rfl, rfl, pow_run (by omega) (by omega) (by omega)⟩
    · cases h
  · cases h
def legS : List AV → Option AV
  | [.int .i64 a, .int .i64 p] => if 1 ≤ p ∧ p ≤ 1000000 then some (.int .i64 (QR.leg a p.toNat)) else none
  | _ => none
theorem leg_run {a : Int} {p : Nat} (h1 : 1 ≤ p) (h2 : p ≤ 1000000) : ∃ h', lim otab.get N4 (.fn 85) [.int .i64 a, .int .i64 (p : Int)] .empty = some (.int .i64 (QR.leg a p), h') := by
  refine run_of (fn := of85) rfl rfl ?_
  show WK _ _ [] ⟨[.int .i64 a, .int .i64 (p : Int), aundef], .empty⟩ _
  dsimp only [of85]
  have e1 : ((p : Int) - 1) / 2 = (((p - 1) / 2 : Nat) : Int) := by omega
  have c : ∀ h, lim otab.get N4 (.fn 107) [.int .i64 a, .int .i64 (((p - 1) / 2 : Nat) : Int), .int .i64 (p : Int)] h = some (.int .i64 (a ^ ((p - 1) / 2) % (p : Int)), h) := fun h =>
    lim_oracle (or_hit (spec := powS) (if_pos (show 0 ≤ (((p - 1) / 2 : Nat) : Int) ∧ (((p - 1) / 2 : Nat) : Int) ≤ 1000000 ∧ 1 ≤ (p : Int) ∧ (p : Int) ≤ 1000000 by omega)))
  by_cases e : a ^ ((p - 1) / 2) % (p : Int) = (p : Int) - 1
  · have hl : QR.leg a p = -1 := by unfold QR.leg; rw [if_pos e]
    simp (disch := omega) only [RSd.down, sub_i64, quo_pos, e1, c, eql_int, e, decide_true, Ret_ret, result_1, hl]
  · have hl : QR.leg a p = a ^ ((p - 1) / 2) % (p : Int) := by unfold QR.leg; rw [if_neg e]
    simp (disch := omega) only [RSd.down, sub_i64, quo_pos, e1, c, eql_int, e, decide_false, Ret_ret, result_1, hl]
noncomputable def N5 : Oracle := ext N4 85 legS
theorem N5_ok : IOK Go.Proofs.Try.prog N5 := IOK.extL mixed tabOK otabOK N4_ok (g := 85) (fn := af85) rfl fun args av h => by
  unfold legS at h
  split at h
  · split at h
    · rename_i p hn
      cases h
      obtain ⟨p, rfl⟩ := Int.eq_ofNat_of_zero_le (show 0 ≤ p by omega)
      exact ⟨rfl, rfl, leg_run (by omega) (by omega)⟩
    · cases h
  · cases h
theorem c_mod_N5 {h : AHeap} {a m : Int} (h0 : 0 < m) (h1 : m ≤ 4611686018427387904) : lim otab.get N5 (.fn 36) [.int .i64 a, .int .i64 m] h = some (.int .i64 (a % m), h) :=
  lim_oracle (or_hit (spec := modS) (if_pos ⟨h0, h1⟩))
def kpS : List AV → Option AV
  | [.int .i64 d, .int .i64 p] => if 1 ≤ p ∧ p ≤ 1000000 then some (.int .i64 (QR.kp d p.toNat)) else none
  | _ => none
theorem kp_run {d : Int} {p : Nat} (h1 : 1 ≤ p) (h2 : p ≤ 1000000) : ∃ h', lim otab.get N5 (.fn 66) [.int .i64 d, .int .i64 (p : Int)] .empty = some (.int .i64 (QR.kp d p), h') := by
  refine run_of (fn := of66) rfl rfl ?_
  show WK _ _ [] ⟨[.int .i64 d, .int .i64 (p : Int), aundef], .empty⟩ _
  dsimp only [of66]
  have c : ∀ h, lim otab.get N5 (.fn 85) [.int .i64 d, .int .i64 (p : Int)] h = some (.int .i64 (QR.leg d p), h) := fun h =>
    lim_oracle (or_hit (spec := legS) (if_pos (show 1 ≤ (p : Int) ∧ (p : Int) ≤ 1000000 by omega)))
  have c2 := fun h => c_mod_N5 (h := h) (a := d) (m := 8) (by decide) (by decide)
  by_cases e : 2 < p
  · have e1 : ((2 : Int) < (p : Int)) = True := eq_true (by omega)
    have hl : QR.kp d p = QR.leg d p := by unfold QR.kp; rw [if_pos e]
    simp only [RSd.down, gtr_int, e1, decide_true, c, Ret_ret, result_1, hl]
  · have e1 : ((2 : Int) < (p : Int)) = False := eq_false (by omega)
    have hl : QR.kp d p = if d % 8 = 1 then 1 else if d % 8 = 5 then -1 else 0 := by unfold QR.kp; rw [if_neg e]
    by_cases d1 : d % 8 = 1
    · rw [if_pos d1] at hl
      simp only [RSd.down, gtr_int, e1, decide_false, c2, eql_int, d1, decide_true, Ret_ret, result_1, hl]
    · rw [if_neg d1] at hl
      by_cases d5 : d % 8 = 5
      · rw [if_pos d5] at hl
        have d1' : (d % 8 = 1) = False := eq_false d1
        have d5' : (d % 8 = 5) = True := eq_true d5
        simp only [RSd.down, gtr_int, e1, decide_false, c2, eql_int, d1', d5', decide_true, Ret_ret, result_1, hl]
      · rw [if_neg d5] at hl
        simp only [RSd.down, gtr_int, e1, decide_false, c2, eql_int, d1, d5, Ret_ret, result_1, hl]
noncomputable def N6 : Oracle := ext N5 66 kpS
theorem N6_ok : IOK Go.Proofs.Try.prog N6 := IOK.extL mixed tabOK otabOK N5_ok (g := 66) (fn := af66) rfl fun args av h => by
  unfold kpS at h
  split at h
  · split at h
    · rename_i p hn
      cases h
      obtain ⟨p, rfl⟩ := Int.eq_ofNat_of_zero_le (show 0 ≤ p by omega)
      exact ⟨rfl, rfl, kp_run (by omega) (by omega)⟩
    · cases h
  · cases h
theorem c_kp {h : AHeap} {d : Int} {p : Nat} (h1 : 1 ≤ p) (h2 : p ≤ 1000000) : lim otab.get N6 (.fn 66) [.int .i64 d, .int .i64 (p : Int)] h = some (.int .i64 (QR.kp d p), h) :=
  lim_oracle (or_hit (spec := kpS) (if_pos (show 1 ≤ (p : Int) ∧ (p : Int) ≤ 1000000 by omega)))
/-- b is a slice of the pairs L -/
structure LJ (h : AHeap) (b : AV) (L : List (Nat × Nat)) : Prop where
  val : (b = .nils ∧ L = []) ∨ ∃ i, b = .slice i 0 L.length (.opn 2) ∧ L ≠ [] ∧ i < h.next ∧ h.get i = some (.cells (flat2 L) true)
theorem LJ.app {h : AHeap} {b : AV} {L : List (Nat × Nat)} (H : LJ h b L) (p e : Nat) (hb : L.length ≤ 1000000) :
    ∃ b' h', appV 2 16 b (.slice h.next 0 1 (.exact 1)) (h.push (.cells [.int .i64 (p : Int), .int .i64 (e : Int)] true)) = some (b', h') ∧ LJ h' b' (L ++ [(p, e)]) := by
  have hsrc : srcOf 2 (.slice h.next 0 1 (.exact 1)) (h.push (.cells [.int .i64 (p : Int), .int .i64 (e : Int)] true)) = some (1, [.int .i64 (p : Int), .int .i64 (e : Int)]) := by
    simp only [srcOf, cellsOf_push, Nat.one_mul, cut_cons, cut_zero]
    rfl
  rcases H.val with ⟨e1, e2⟩ | ⟨i, e1, e2, e4, e5⟩
  · subst e1; subst e2
    refine ⟨.slice (h.next + 1) 0 1 (.opn 2), (h.push (.cells [.int .i64 (p : Int), .int .i64 (e : Int)] true)).push (.cells [.int .i64 (p : Int), .int .i64 (e : Int)] true), ?_, ?_⟩
    · unfold appV
      simp only [evalE, ev_lit, hsrc]
      rw [if_neg (by decide), if_pos (by decide)]
      rfl
    · exact ⟨.inr ⟨h.next + 1, rfl, by simp, by simp, AHeap.get_push_same (h.push (.cells [.int .i64 (p : Int), .int .i64 (e : Int)] true)) _⟩⟩
  · subst e1
    have hown : ownOf (h.push (.cells [.int .i64 (p : Int), .int .i64 (e : Int)] true)) i = some (flat2 L) := by
      unfold ownOf; rw [AHeap.get_push_lt _ _ e4, e5]
    have hd : drops (flat2 L) 0 = flat2 L := by cases flat2 L <;> rfl
    have hl := flat2_len L
    refine ⟨.slice (h.next + 1) 0 (L.length + 1) (.opn 2), ((h.push (.cells [.int .i64 (p : Int), .int .i64 (e : Int)] true)).del i).push (.cells (flat2 (L ++ [(p, e)])) true), ?_, ?_⟩
    · unfold appV
      simp only [evalE, ev_lit, hsrc, hown]
      rw [if_pos ⟨trivial, by omega⟩, if_neg (by omega), if_pos (by omega), hd, flat2_app]
      rfl
    · refine ⟨.inr ⟨h.next + 1, by simp, by simp, by simp, ?_⟩⟩
      exact AHeap.get_push_same ((h.push (.cells [.int .i64 (p : Int), .int .i64 (e : Int)] true)).del i) _
end Go.AM
