/- Forms: tests and order; answers joined. No condition. -/
import Derived.Test.YtemmnocgkgoegaaRedm
import Derived.Test.YtemmnocgkgoegaaRepm
import Derived.Test.YtemmnocgkgoegaaSymc
set_option maxRecDepth 100000
set_option linter.unusedSimpArgs false
set_option linter.unusedVariables false
namespace Go.AM
open Go
section
variable {C : CallT} {K : List Fr} {Q : AX → St → Prop} {h : AHeap}
noncomputable def gcdB : ACode := match of55.body with | .seq _ (.seq (.block _ (.loop b)) _) => b | c => c
theorem gcd_loop : ∀ (m : Nat) (a b : Int) (y2 : AV), b.natAbs < m → -1000000000000 ≤ a → a ≤ 1000000000000 → -1000000000000 ≤ b → b ≤ 1000000000000 →
    (∀ (g : Int) (z2 : AV), g.natAbs = Int.gcd a b → -1000000000000 ≤ g → g ≤ 1000000000000 → WX C (.exit 0) K ⟨[.int .i64 g, .int .i64 0, z2], h⟩ Q) →
    WK C (.loop gcdB) K ⟨[.int .i64 a, .int .i64 b, y2], h⟩ Q
  | 0, a, b, y2, hm, _, _, _, _, hk => by omega
  | m + 1, a, b, y2, hm, a1, a2, b1, b2, hk => by
    refine WK_loop' (by dsimp only [gcdB, of55]) ?_
    by_cases e : b = 0
    · subst e
      simp only [RSd.down, neq_int, ne_eq, not_true_eq_false, decide_false]
      exact hk a _ (by simp) a1 a2
    · have e2 : (b ≠ 0) = True := eq_true e
      have ha : (a.tmod b).natAbs = a.natAbs % b.natAbs := Int.natAbs_tmod a b
      have hl : a.natAbs % b.natAbs < b.natAbs := Nat.mod_lt _ (by omega)
      simp (disch := omega) only [RSd.down, neq_int, e2, decide_true, rem_i64]
      refine gcd_loop m b (a.tmod b) _ (by omega) b1 b2 (by omega) (by omega) fun g z2 hg g1 g2 => hk g z2 ?_ g1 g2
      rw [hg]
      show Nat.gcd b.natAbs (a.tmod b).natAbs = Nat.gcd a.natAbs b.natAbs
      rw [ha, Nat.gcd_comm a.natAbs b.natAbs, Nat.gcd_comm b.natAbs (a.natAbs % b.natAbs), ← Nat.gcd_rec]
noncomputable def rgcdB : ACode := match of32.body with | .seq _ (.seq (.block _ (.loop b)) _) => b | c => c
theorem rgcd_loop : ∀ (m a b : Nat) (y2 : AV), b < m →
    (∀ (z1 z2 : AV), WX C (.exit 0) K ⟨[.int .i64 (Nat.gcd a b : Int), z1, z2], h⟩ Q) →
    WK C (.loop rgcdB) K ⟨[.int .i64 (a : Int), .int .i64 (b : Int), y2], h⟩ Q
  | 0, a, b, y2, hm, hk => by omega
  | m + 1, a, b, y2, hm, hk => by
    refine WK_loop' (by dsimp only [rgcdB, of32]) ?_
    by_cases e : b = 0
    · subst e
      simp only [RSd.down, gtr_int, show decide ((0 : Int) < ((0 : Nat) : Int)) = false from rfl]
      have := hk (.int .i64 ((0 : Nat) : Int)) (.bool false)
      rw [Nat.gcd_zero_right] at this
      exact this
    · have e2 : (0 : Int) < (b : Int) := by omega
      have e3 : (a : Int) % (b : Int) = ((a % b : Nat) : Int) := by simp
      simp (disch := omega) only [RSd.down, gtr_int, e2, decide_true, rem_pos, e3]
      refine rgcd_loop m b (a % b) _ (by have := Nat.mod_lt a (show b > 0 by omega); omega) ?_
      rw [Nat.gcd_comm b (a % b), ← Nat.gcd_rec, Nat.gcd_comm b a]
      exact hk
end
def mid (x : Int) : Prop := -1000000000000 ≤ x ∧ x ≤ 1000000000000
instance (x : Int) : Decidable (mid x) := by unfold mid; infer_instance
def gcdS : List AV → Option AV
  | [.int .i64 a, .int .i64 b] => if mid a ∧ mid b then some (.int .i64 (Int.gcd a b : Int)) else none
  | _ => none
theorem gcd_run {a b : Int} (ha : mid a) (hb : mid b) : ∃ h', lim otab.get K2 (.fn 55) [.int .i64 a, .int .i64 b] .empty = some (.int .i64 (Int.gcd a b : Int), h') := by
  refine run_of (fn := of55) rfl rfl ?_
  show WK _ _ [] ⟨[.int .i64 a, .int .i64 b, aundef], .empty⟩ _
  dsimp only [of55]
  simp only [RSd.down]
  refine gcd_loop (b.natAbs + 1) a b _ (by omega) ha.1 ha.2 hb.1 hb.2 fun g z2 hg g1 g2 => ?_
  simp (disch := omega) only [RSd.down, neg_i64, max_int, max_abs, Ret_ret, result_1, hg]
noncomputable def L3 : Oracle := ext K2 55 gcdS
theorem L3_ok : IOK Go.Proofs.Try.prog L3 := IOK.extL mixed tabOK otabOK K2_ok (g := 55) (fn := af55) rfl fun args av h => by
  unfold gcdS at h
  split at h
  · split at h
    · rename_i hn; cases h; exact ⟨rfl, rfl, gcd_run hn.1 hn.2⟩
    · cases h
  · cases h
def rgcdS : List AV → Option AV
  | [.int .i64 a, .int .i64 b] => if 0 ≤ a ∧ 0 ≤ b then some (.int .i64 (Nat.gcd a.toNat b.toNat : Int)) else none
  | _ => none
theorem rgcd_ok (x y : Nat) : rgcdS [.int .i64 (x : Int), .int .i64 (y : Int)] = some (.int .i64 (Nat.gcd x y : Int)) := by
  show (if 0 ≤ (x : Int) ∧ 0 ≤ (y : Int) then some (AV.int .i64 (Nat.gcd (x : Int).toNat (y : Int).toNat : Int)) else none) = _
  rw [if_pos ⟨by omega, by omega⟩, Int.toNat_natCast, Int.toNat_natCast]
theorem rgcd_run (a b : Nat) : ∃ h', lim otab.get L3 (.fn 32) [.int .i64 (a : Int), .int .i64 (b : Int)] .empty = some (.int .i64 (Nat.gcd a b : Int), h') := by
  refine run_of (fn := of32) rfl rfl ?_
  show WK _ _ [] ⟨[.int .i64 (a : Int), .int .i64 (b : Int), aundef], .empty⟩ _
  dsimp only [of32]
  simp only [RSd.down]
  refine rgcd_loop (b + 1) a b _ (by omega) fun z1 z2 => ?_
  simp only [RSd.down, Ret_ret, result_1]
noncomputable def L4 : Oracle := ext L3 32 rgcdS
theorem L4_ok : IOK Go.Proofs.Try.prog L4 := IOK.extL mixed tabOK otabOK L3_ok (g := 32) (fn := af32) rfl fun args av h => by
  unfold rgcdS at h
  split at h
  · split at h
    · rename_i a b hn
      cases h
      obtain ⟨m, rfl⟩ := Int.eq_ofNat_of_zero_le hn.1
      obtain ⟨n, rfl⟩ := Int.eq_ofNat_of_zero_le hn.2
      exact ⟨rfl, rfl, rgcd_run m n⟩
    · cases h
  · cases h
def g3 (A B C : Int) : Nat := Nat.gcd (Nat.gcd A.natAbs B.natAbs) C.natAbs
def rg3S : List AV → Option AV
  | [.int .i64 a, .int .i64 b, .int .i64 c] => if mid a ∧ mid b ∧ mid c then some (.int .i64 (g3 a b c : Int)) else none
  | _ => none
theorem mid.small {x : Int} (h : mid x) : small x := by unfold mid at h; unfold AM.small; omega
theorem rg3_run {a b c : Int} (ha : mid a) (hb : mid b) (hc : mid c) : ∃ h', lim otab.get L4 (.fn 58) [.int .i64 a, .int .i64 b, .int .i64 c] .empty = some (.int .i64 (g3 a b c : Int), h') := by
  refine run_of (fn := of58) rfl rfl ?_
  show WK _ _ [] ⟨[.int .i64 a, .int .i64 b, .int .i64 c, aundef], .empty⟩ _
  dsimp only [of58]
  have cab : ∀ (x : Int) h, mid x → lim otab.get L4 (.fn 44) [.int .i64 x] h = some (.int .i64 (x.natAbs : Int), h) := fun x h hx => lim_oracle (or_hit (spec := absS) (if_pos hx.small))
  have cg : ∀ (x y : Nat) h, lim otab.get L4 (.fn 32) [.int .i64 (x : Int), .int .i64 (y : Int)] h = some (.int .i64 (Nat.gcd x y : Int), h) := fun x y h => lim_oracle (Eq.trans (b := L4 32 [.int .i64 (x : Int), .int .i64 (y : Int)] h) rfl (ext_hit (rgcd_ok x y)))
  simp only [RSd.down, cab a _ ha, cab b _ hb, cab c _ hc, cg, Ret_ret, result_1, g3]
noncomputable def L5 : Oracle := ext L4 58 rg3S
theorem L5_ok : IOK Go.Proofs.Try.prog L5 := IOK.extL mixed tabOK otabOK L4_ok (g := 58) (fn := af58) rfl fun args av h => by
  unfold rg3S at h
  split at h
  · split at h
    · rename_i hn; cases h; exact ⟨rfl, rfl, rg3_run hn.1 hn.2.1 hn.2.2⟩
    · cases h
  · cases h
/-- the reference's test again, over this chain -/
theorem isRed_run5 {A B C : Int} (hb : small B) : ∃ h', lim otab.get L5 (.fn 33) [fV A B C] .empty = some (.bool (decide (isRed (A, B, C))), h') := by
  refine run_of (fn := of33) rfl rfl ?_
  show WK _ _ [] ⟨[fV A B C, aundef, aundef, aundef, aundef], .empty⟩ _
  dsimp only [of33]
  have g0 : (AHeap.empty.push (.cells (fC A B C) true)).get 0 = some (.cells (fC A B C) true) := AHeap.get_push_same AHeap.empty _
  have cb : ∀ h, lim otab.get L5 (.fn 44) [.int .i64 B] h = some (.int .i64 (B.natAbs : Int), h) := fun h => lim_oracle (or_hit (spec := absS) (if_pos hb))
  by_cases e1 : (B.natAbs : Int) ≤ A
  · by_cases e2 : A ≤ C
    · by_cases e3 : 0 ≤ B
      · have : isRed (A, B, C) := ⟨e1, e2, .inl e3⟩
        simp only [RSd.down, WOs_box, evalA_bxR, cells_agg, WOs_faddr, evalQ_faddr, faddrV_0, faddrV_1, faddrV_2, ld0 g0, ld1 g0, ld2 g0, cb, leq_int, geq_int, neq_int, e1, e2, e3, decide_true, Ret_ret, result_1, this]
      · by_cases e4 : (B.natAbs : Int) ≠ A
        · have e4t : ((B.natAbs : Int) ≠ A) = True := eq_true e4
          have : isRed (A, B, C) ↔ A ≠ C := by unfold isRed; dsimp only; omega
          simp only [RSd.down, WOs_box, evalA_bxR, cells_agg, WOs_faddr, evalQ_faddr, faddrV_0, faddrV_1, faddrV_2, ld0 g0, ld1 g0, ld2 g0, cb, leq_int, geq_int, neq_int, e1, e2, e3, e4t, decide_true, decide_false, Ret_ret, result_1, decide_eq_decide.2 this]
        · have : ¬ isRed (A, B, C) := by unfold isRed; dsimp only; omega
          simp only [RSd.down, WOs_box, evalA_bxR, cells_agg, WOs_faddr, evalQ_faddr, faddrV_0, faddrV_1, faddrV_2, ld0 g0, ld1 g0, ld2 g0, cb, leq_int, geq_int, neq_int, e1, e2, e3, e4, decide_true, decide_false, Ret_ret, result_1, this]
    · have : ¬ isRed (A, B, C) := fun h => e2 h.2.1
      simp only [RSd.down, WOs_box, evalA_bxR, cells_agg, WOs_faddr, evalQ_faddr, faddrV_0, faddrV_1, faddrV_2, ld0 g0, ld1 g0, ld2 g0, cb, leq_int, geq_int, neq_int, e1, e2, decide_true, decide_false, Ret_ret, result_1, this]
  · have : ¬ isRed (A, B, C) := fun h => e1 h.1
    simp only [RSd.down, WOs_box, evalA_bxR, cells_agg, WOs_faddr, evalQ_faddr, faddrV_0, faddrV_1, faddrV_2, ld0 g0, ld1 g0, ld2 g0, cb, leq_int, geq_int, neq_int, e1, decide_false, Ret_ret, result_1, this]
noncomputable def L6 : Oracle := ext L5 33 isRedS
theorem L6_ok : IOK Go.Proofs.Try.prog L6 := IOK.extL mixed tabOK otabOK L5_ok (g := 33) (fn := af33) rfl fun args av h => by
  unfold isRedS at h
  split at h
  · split at h
    · rename_i hn; cases h; exact ⟨rfl, rfl, isRed_run5 hn.2.1⟩
    · cases h
  · cases h
/-- the order of forms -/
def cmpV (f g : F3) : Int := if f.1 ≠ g.1 then f.1 - g.1 else if f.2.1 ≠ g.2.1 then f.2.1 - g.2.1 else f.2.2 - g.2.2
def cmpS : List AV → Option AV
  | [.agg [.int .i64 A, .int .i64 B, .int .i64 C], .agg [.int .i64 A', .int .i64 B', .int .i64 C']] => if mid A ∧ mid B ∧ mid C ∧ mid A' ∧ mid B' ∧ mid C' then some (.int .i64 (cmpV (A, B, C) (A', B', C'))) else none
  | _ => none
theorem cmp_run {A B C A' B' C' : Int} (ha : mid A) (hb : mid B) (hc : mid C) (ha' : mid A') (hb' : mid B') (hc' : mid C') : ∃ h', lim otab.get L6 (.fn 57) [fV A B C, fV A' B' C'] .empty = some (.int .i64 (cmpV (A, B, C) (A', B', C')), h') := by
  refine run_of (fn := of57) rfl rfl ?_
  show WK _ _ [] ⟨[fV A B C, fV A' B' C', aundef, aundef], .empty⟩ _
  dsimp only [of57]
  obtain ⟨H, hH⟩ : ∃ H, H = (AHeap.empty.push (.cells (fC A B C) true)).push (.cells (fC A' B' C') true) := ⟨_, rfl⟩
  have g0 : H.get 0 = some (.cells (fC A B C) true) := by
    rw [hH, AHeap.get_push_lt _ _ (by simp)]; exact AHeap.get_push_same AHeap.empty _
  have g1 : H.get 1 = some (.cells (fC A' B' C') true) := by
    rw [hH]; exact AHeap.get_push_same (AHeap.empty.push (.cells (fC A B C) true)) _
  unfold mid at *
  unfold cmpV
  dsimp only
  simp only [RSd.down, WOs_box, evalA_bxR, cells_agg, AHeap.next_push, Nat.zero_add]
  rw [← hH]
  by_cases e1 : A = A'
  · by_cases e2 : B = B'
    · simp (disch := omega) only [RSd.down, WOs_faddr, evalQ_faddr, faddrV_0, faddrV_1, faddrV_2, ld0 g0, ld1 g0, ld2 g0, ld0 g1, ld1 g1, ld2 g1, neq_int, ne_eq, e1, e2, not_true_eq_false, decide_false, sub_i64, if_false, Ret_ret, result_1]
    · simp (disch := omega) only [RSd.down, WOs_faddr, evalQ_faddr, faddrV_0, faddrV_1, faddrV_2, ld0 g0, ld1 g0, ld2 g0, ld0 g1, ld1 g1, ld2 g1, neq_int, ne_eq, e1, e2, not_true_eq_false, not_false_eq_true, decide_false, decide_true, sub_i64, if_false, if_true, Ret_ret, result_1]
  · simp (disch := omega) only [RSd.down, WOs_faddr, evalQ_faddr, faddrV_0, faddrV_1, faddrV_2, ld0 g0, ld1 g0, ld2 g0, ld0 g1, ld1 g1, ld2 g1, neq_int, ne_eq, e1, not_false_eq_true, decide_true, sub_i64, if_true, Ret_ret, result_1]
noncomputable def L7 : Oracle := ext L6 57 cmpS
theorem L7_ok : IOK Go.Proofs.Try.prog L7 := IOK.extL mixed tabOK otabOK L6_ok (g := 57) (fn := af57) rfl fun args av h => by
  unfold cmpS at h
  split at h
  · split at h
    · rename_i hn; cases h; exact ⟨rfl, rfl, cmp_run hn.1 hn.2.1 hn.2.2.1 hn.2.2.2.1 hn.2.2.2.2.1 hn.2.2.2.2.2⟩
    · cases h
  · cases h
theorem qred_run {A B C : Int} (hb : small B) : ∃ h', lim otab.get L7 (.fn 54) [fV A B C] .empty = some (.bool (decide (isRed (A, B, C))), h') := by
  refine run_of (fn := of54) rfl rfl ?_
  show WK _ _ [] ⟨[fV A B C, aundef, aundef, aundef, aundef], .empty⟩ _
  dsimp only [of54]
  have g0 : (AHeap.empty.push (.cells (fC A B C) true)).get 0 = some (.cells (fC A B C) true) := AHeap.get_push_same AHeap.empty _
  unfold small at hb
  by_cases e1 : (B.natAbs : Int) ≤ A
  · by_cases e2 : A ≤ C
    · by_cases e3 : 0 ≤ B
      · have : isRed (A, B, C) := ⟨e1, e2, .inl e3⟩
        simp (disch := omega) only [RSd.down, WOs_box, evalA_bxR, cells_agg, WOs_faddr, evalQ_faddr, faddrV_0, faddrV_1, faddrV_2, ld0 g0, ld1 g0, ld2 g0, neg_i64, max_int, max_abs, leq_int, geq_int, lss_int, e1, e2, e3, decide_true, Ret_ret, result_1, this]
      · by_cases e4 : (B.natAbs : Int) < A
        · have : isRed (A, B, C) ↔ A < C := by unfold isRed; dsimp only; omega
          simp (disch := omega) only [RSd.down, WOs_box, evalA_bxR, cells_agg, WOs_faddr, evalQ_faddr, faddrV_0, faddrV_1, faddrV_2, ld0 g0, ld1 g0, ld2 g0, neg_i64, max_int, max_abs, leq_int, geq_int, lss_int, e1, e2, e3, e4, decide_true, decide_false, Ret_ret, result_1, decide_eq_decide.2 this]
        · have : ¬ isRed (A, B, C) := by unfold isRed; dsimp only; omega
          simp (disch := omega) only [RSd.down, WOs_box, evalA_bxR, cells_agg, WOs_faddr, evalQ_faddr, faddrV_0, faddrV_1, faddrV_2, ld0 g0, ld1 g0, ld2 g0, neg_i64, max_int, max_abs, leq_int, geq_int, lss_int, e1, e2, e3, e4, decide_true, decide_false, Ret_ret, result_1, this]
    · have : ¬ isRed (A, B, C) := fun h => e2 h.2.1
      simp (disch := omega) only [RSd.down, WOs_box, evalA_bxR, cells_agg, WOs_faddr, evalQ_faddr, faddrV_0, faddrV_1, faddrV_2, ld0 g0, ld1 g0, ld2 g0, neg_i64, max_int, max_abs, leq_int, geq_int, lss_int, e1, e2, decide_true, decide_false, Ret_ret, result_1, this]
  · have : ¬ isRed (A, B, C) := fun h => e1 h.1
    simp (disch := omega) only [RSd.down, WOs_box, evalA_bxR, cells_agg, WOs_faddr, evalQ_faddr, faddrV_0, faddrV_1, faddrV_2, ld0 g0, ld1 g0, ld2 g0, neg_i64, max_int, max_abs, leq_int, geq_int, lss_int, e1, decide_false, Ret_ret, result_1, this]
noncomputable def L80 : Oracle := ext L7 54 isRedS
theorem L80_ok : IOK Go.Proofs.Try.prog L80 := IOK.extL mixed tabOK otabOK L7_ok (g := 54) (fn := af54) rfl fun args av h => by
  unfold isRedS at h
  split at h
  · split at h
    · rename_i hn; cases h; exact ⟨rfl, rfl, qred_run hn.2.1⟩
    · cases h
  · cases h
end Go.AM
namespace Go.AM
open Go
theorem IOK.join {P : Program} {I J : Oracle} (hI : IOK P I) (hJ : IOK P J) {g : Nat} {spec : List AV → Option AV} (hs : ∀ args av h, spec args = some av → J g args h = some (av, h)) : IOK P (ext I g spec) := by
  refine ⟨fun f args av h h' he ρ B w args' hsm ha => ?_, fun f args r h he => ?_⟩
  · unfold ext at he
    cases hf : Nat.beq f g with
    | false => rw [hf] at he; exact hI.sound f args av h h' he ρ B w args' hsm ha
    | true =>
      have e := Nat.eq_of_beq_eq_true hf
      subst e
      rw [hf] at he
      simp only [cond_true] at he
      split at he
      · rename_i av' hav
        cases he
        exact hJ.sound f args _ _ _ (hs args _ _ hav) ρ B w args' hsm ha
      · exact hI.sound f args av h h' he ρ B w args' hsm ha
  · unfold ext at he
    cases hf : Nat.beq f g with
    | false => rw [hf] at he; exact hI.plain f args r h he
    | true =>
      have e := Nat.eq_of_beq_eq_true hf
      subst e
      rw [hf] at he
      simp only [cond_true] at he
      split at he
      · rename_i av' hav
        exact hJ.plain f args _ _ (hs args _ h hav)
      · exact hI.plain f args r h he
noncomputable def L81 : Oracle := ext L80 29 rprS
theorem L81_ok : IOK Go.Proofs.Try.prog L81 := IOK.join L80_ok N9_ok fun args av h e => or_hit (spec := rprS) e
noncomputable def L82 : Oracle := ext L81 35 splS
theorem L82_ok : IOK Go.Proofs.Try.prog L82 := IOK.join L81_ok N9_ok fun args av h e => ext_hit e
noncomputable def L83 : Oracle := ext L82 28 repS
theorem L83_ok : IOK Go.Proofs.Try.prog L83 := IOK.join L82_ok I19_ok fun args av h e => ext_hit e
noncomputable def L8 : Oracle := ext L83 25 redS
theorem L8_ok : IOK Go.Proofs.Try.prog L8 := IOK.join L83_ok K7_ok fun args av h e => ext_hit e
end Go.AM
namespace Go.AM
open Go
section
variable {C : CallT} {K : List Fr} {Q : AX → St → Prop} {op : AOp} {m : Nat} {d : Option Nat} {r : List (AOper × Nat)} {ps : List ((AHeap → Bool) × Nat)} {tm : List AV} {h : AHeap}
def dgLow (op : AOp) (ps : List ((AHeap → Bool) × Nat)) : List ((AHeap → Bool) × Nat) := match op.cls with | .e => lower ps | _ => ps
def DG (C : CallT) (v : AV) (b : Bool) (d : Option Nat) (op : AOp) (m : Nat) (r : List (AOper × Nat)) (ps : List ((AHeap → Bool) × Nat)) (K : List Fr) (tm : List AV) (h : AHeap) (Q : AX → St → Prop) : Prop := match v with
  | .bool c => if (c == b) = true then WDs C ((⟨d, op, none⟩, m) :: r) ps K ⟨tm, h⟩ Q else WDs C r (dgLow op ps) K ⟨putD tm d aundef, h⟩ Q
  | _ => WDs C r (dgLow op ps) K ⟨putD tm d aundef, h⟩ Q
theorem DG_tt : DG C (.bool true) true d op m r ps K tm h Q ↔ WDs C ((⟨d, op, none⟩, m) :: r) ps K ⟨tm, h⟩ Q := by simp [DG]
theorem DG_ff : DG C (.bool false) false d op m r ps K tm h Q ↔ WDs C ((⟨d, op, none⟩, m) :: r) ps K ⟨tm, h⟩ Q := by simp [DG]
theorem DG_ft : DG C (.bool false) true d op m r ps K tm h Q ↔ WDs C r (dgLow op ps) K ⟨putD tm d aundef, h⟩ Q := by simp [DG]
theorem DG_tf : DG C (.bool true) false d op m r ps K tm h Q ↔ WDs C r (dgLow op ps) K ⟨putD tm d aundef, h⟩ Q := by simp [DG]
theorem DGs {t : Nat} {b : Bool} : WDs C ((⟨d, op, some (t, b)⟩, m) :: r) ps K ⟨tm, h⟩ Q ↔ DG C (nth tm t) b d op m r ps K tm h Q := by
  have e : runDraw ((⟨d, op, some (t, b)⟩, m) :: r) C ⟨tm, h⟩ ps = if wanted tm (some (t, b)) = true then runDraw ((⟨d, op, none⟩, m) :: r) C ⟨tm, h⟩ ps else runDraw r C ⟨putD tm d aundef, h⟩ (dgLow op ps) := by
    rw [runDraw_cons, runDraw_cons]
    by_cases hw : wanted tm (some (t, b)) = true
    · rw [if_pos hw, if_pos hw, if_pos (show wanted tm none = true from rfl)]
      cases hc : op.cls with
      | q => rw [step1_q hc, step1_q hc]; rfl
      | a => rw [step1_a hc, step1_a hc]; rfl
      | e => rw [step1_e hc, step1_e hc]
    · rw [if_neg hw, if_neg hw]; rfl
  have e2 : wanted tm (some (t, b)) = (match nth tm t with | .bool c => c == b | _ => false) := rfl
  unfold WDs
  rw [e, e2]
  generalize nth tm t = v
  cases v with
  | bool c =>
    show (∃ s', (if (c == b) = true then _ else _) = some s' ∧ _) ↔ (if (c == b) = true then _ else _)
    by_cases hc : (c == b) = true
    · rw [if_pos hc, if_pos hc]; exact Iff.rfl
    · rw [if_neg hc, if_neg hc]; exact Iff.rfl
  | _ => exact Iff.rfl
end
abbrev fCq (f : F3) : List AV := fC f.1 f.2.1 f.2.2
abbrev fVq (f : F3) : AV := fV f.1 f.2.1 f.2.2
def flat3 : List F3 → List AV
  | [] => []
  | f :: r => fCq f ++ flat3 r
theorem flat3_app : ∀ (l : List F3) (f : F3), flat3 (l ++ [f]) = flat3 l ++ fCq f
  | [], f => by show fCq f ++ [] = _; simp [flat3]
  | g :: r, f => by show fCq g ++ flat3 (r ++ [f]) = _; rw [flat3_app r f, ← List.append_assoc]; rfl
theorem flat3_len : ∀ l : List F3, (flat3 l).length = 3 * l.length
  | [] => rfl
  | f :: r => by show (fCq f ++ flat3 r).length = _; rw [List.length_append, flat3_len r]; simp; omega
/-- b is a slice of the forms L, its object new since h0 -/
structure LI (h0 h : AHeap) (b : AV) (L : List F3) : Prop where
  le : h0.next ≤ h.next
  same : ∀ j, j < h0.next → h.get j = h0.get j
  val : (b = .nils ∧ L = []) ∨ ∃ i, b = .slice i 0 L.length (.opn 3) ∧ L ≠ [] ∧ h0.next ≤ i ∧ i < h.next ∧ h.get i = some (.cells (flat3 L) true)
theorem LI.nil (h : AHeap) : LI h h .nils [] := ⟨Nat.le_refl _, fun _ _ => rfl, .inl ⟨rfl, rfl⟩⟩
theorem LI.push {h0 h : AHeap} {b : AV} {L : List F3} (H : LI h0 h b L) (o : AObj) : LI h0 (h.push o) b L := by
  refine ⟨Nat.le_succ_of_le H.le, fun j hj => ?_, ?_⟩
  · rw [AHeap.get_push_lt h o (Nat.lt_of_lt_of_le hj H.le)]; exact H.same j hj
  · rcases H.val with e | ⟨i, e1, e2, e3, e4, e5⟩
    · exact .inl e
    · exact .inr ⟨i, e1, e2, e3, Nat.lt_succ_of_lt e4, by rw [AHeap.get_push_lt h o e4]; exact e5⟩
/-- an object above is written -/
theorem LI.set {h0 h : AHeap} {b : AV} {L : List F3} (H : LI h0 h b L) (o o' : AObj) : LI h0 ((h.push o).set h.next o') b L := by
  have hle := H.le
  refine ⟨Nat.le_succ_of_le H.le, fun j hj => ?_, ?_⟩
  · rw [AHeap.get_set_ne _ _ (by omega), AHeap.get_push_lt h o (by omega)]; exact H.same j hj
  · rcases H.val with e | ⟨i, e1, e2, e3, e4, e5⟩
    · exact .inl e
    · exact .inr ⟨i, e1, e2, e3, Nat.lt_succ_of_lt e4, by rw [AHeap.get_set_ne _ _ (by omega), AHeap.get_push_lt h o e4]; exact e5⟩
theorem LI.app {h0 h : AHeap} {b : AV} {L : List F3} (H : LI h0 h b L) (f : F3) (hb : L.length ≤ 1000000) :
    ∃ b' h', appV 3 24 b (.slice h.next 0 1 (.exact 1)) (h.push (.cells (fCq f) true)) = some (b', h') ∧ LI h0 h' b' (L ++ [f]) := by
  have hsrc : srcOf 3 (.slice h.next 0 1 (.exact 1)) (h.push (.cells (fCq f) true)) = some (1, fCq f) := by
    simp only [srcOf, cellsOf_push]
    have : cut (fCq f) 0 (1 * 3) = some (fCq f) := cut_all (fCq f)
    rw [this]; rfl
  have h1 := H.le
  rcases H.val with ⟨e1, e2⟩ | ⟨i, e1, e2, e3, e4, e5⟩
  · subst e1; subst e2
    refine ⟨.slice (h.next + 1) 0 1 (.opn 3), (h.push (.cells (fCq f) true)).push (.cells (fCq f) true), ?_, Nat.le_succ_of_le (Nat.le_succ_of_le H.le), ?_, ?_⟩
    · unfold appV
      simp only [evalE, ev_lit, hsrc]
      rw [if_neg (by decide), if_pos (by decide)]
      rfl
    · intro j hj
      rw [AHeap.get_push_lt _ _ (show j < (h.push (.cells (fCq f) true)).next by rw [AHeap.next_push]; omega), AHeap.get_push_lt _ _ (by omega)]
      exact H.same j hj
    · exact .inr ⟨h.next + 1, rfl, by simp, by omega, by simp, AHeap.get_push_same (h.push (.cells (fCq f) true)) _⟩
  · subst e1
    have hown : ownOf (h.push (.cells (fCq f) true)) i = some (flat3 L) := by
      unfold ownOf; rw [AHeap.get_push_lt _ _ e4, e5]
    have hd : drops (flat3 L) 0 = flat3 L := by cases flat3 L <;> rfl
    have hl := flat3_len L
    refine ⟨.slice (h.next + 1) 0 (L.length + 1) (.opn 3), ((h.push (.cells (fCq f) true)).del i).push (.cells (flat3 (L ++ [f])) true), ?_, ?_, ?_, ?_⟩
    · unfold appV
      simp only [evalE, ev_lit, hsrc, hown]
      rw [if_pos ⟨trivial, by omega⟩, if_neg (by omega), if_pos (by omega), hd, flat3_app]
      rfl
    · show h0.next ≤ h.next + 1 + 1
      omega
    · intro j hj
      rw [AHeap.get_push_lt _ _ (show j < ((h.push (.cells (fCq f) true)).del i).next by rw [AHeap.next_del, AHeap.next_push]; omega), AHeap.get_del_ne _ (by omega), AHeap.get_push_lt _ _ (by omega)]
      exact H.same j hj
    · refine .inr ⟨h.next + 1, by simp, by simp, by omega, by simp, ?_⟩
      exact AHeap.get_push_same ((h.push (.cells (fCq f) true)).del i) _
theorem bslice3f {tm : List AV} {h : AHeap} {x : AOpd} {f : F3} {z0 z1 z2 : AV} (hx : ev tm x = fVq f) : evalA (.bslice 1 3 [z0, z1, z2] [(0, x)]) tm h = some (.cells (fCq f) true, .slice h.next 0 1 (.exact 1)) := by
  simp only [evalA, fillsS, hx]; rfl
/-- the form with a and b, where there is one -/
def itemL (d : Int) (a : Nat) (b : Int) : List F3 := if (b * b - d) % (4 * (a : Int)) = 0 then (if isRed ((a : Int), b, (b * b - d) / (4 * (a : Int))) ∧ g3 a b ((b * b - d) / (4 * (a : Int))) = 1 then [((a : Int), b, (b * b - d) / (4 * (a : Int)))] else []) else []
def rowF (d : Int) (a : Nat) : Nat → Int → List F3 → List F3
  | 0, _, L => L
  | f + 1, b, L => rowF d a f (b + 1) (L ++ itemL d a b)
def lstF (d : Int) : Nat → Nat → List F3 → List F3
  | 0, _, L => L
  | f + 1, a, L => if 3 * a * a ≤ (-d).toNat then lstF d f (a + 1) (rowF d a (2 * a + 1) (-(a : Int)) L) else L
theorem itemL_len (d : Int) (a : Nat) (b : Int) : (itemL d a b).length ≤ 1 := by
  unfold itemL; split
  · split <;> simp
  · simp
end Go.AM
