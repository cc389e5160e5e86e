/- The reference's integers: difference and comparison; what the law calls. No condition. -/
import Derived.Test.YtemmnocgkgoegaaGreatRt3
set_option maxRecDepth 100000
set_option linter.unusedSimpArgs false
set_option linter.unusedVariables false
namespace Go.AM
open Go
noncomputable def D14 : Oracle := ext D13 36 imkS
theorem D14_ok : IOK Go.Proofs.Tryz.prog D14 := IOK.join D13_ok U5_ok fun args av h e => ext_hit e
theorem rneg_run (b : Bool) (t : List Nat) : ∃ h', lim otab.get D14 (.fn 35) [.agg [.bool b, .str t]] .empty = some (.agg [.bool (!b && !decide (t = [])), .str t], h') := by
  refine run_of (fn := of35) rfl rfl ?_
  show WK _ _ [] ⟨[.agg [.bool b, .str t], aundef, aundef], .empty⟩ _
  dsimp only [of35]
  obtain ⟨g0, g1⟩ := hp2 (c0 := [.bool b, .str t]) (c1 := [.bool false, .str []])
  obtain ⟨H, hH⟩ : ∃ H, H = (AHeap.empty.push (.cells [.bool b, .str t] true)).push (.cells [.bool false, .str []] true) := ⟨_, rfl⟩
  rw [← hH] at g0 g1
  have ck : ∀ c s h, lim otab.get D14 (.fn 36) [.bool c, .str s] h = some (.agg [.bool (c && !decide (s = [])), .str s], h) := fun c s h => lim_oracle rfl
  simp only [RSd.down, WOs_box, bxA, alA, celA, AHeap.next_push, Nat.zero_add]
  rw [← hH]
  simp only [RSd.down, WOs_faddr, evalQ_fadI, fadI_0, fadI_1, l20 g0, l21 g0, not_bool, ck, evalE_stI, stI2 (x := .bool (!b && !decide (t = []))) (y := .str t) g1 rfl rfl, Ret_ret]
  exact resC (l2S (AHeap.get_set_same _ _ _))
noncomputable def D15 : Oracle := ext D14 35 inegS
theorem D15_ok : IOK Go.Proofs.Tryz.prog D15 := IOK.extL mixed tabOK otabOK D14_ok (g := 35) (fn := af35) rfl fun args av h => by
  unfold inegS at h
  split at h
  · cases h; exact ⟨rfl, rfl, rneg_run _ _⟩
  · cases h
noncomputable def D16 : Oracle := ext D15 34 addI
theorem D16_ok : IOK Go.Proofs.Tryz.prog D16 := IOK.join D15_ok U10_ok fun args av h e => ext_hit e
theorem rsub2_run {a b : Bool} {s t : List Nat} (hs : kcan s = true) (ht : kcan t = true) : ∃ h', lim otab.get D16 (.fn 9) [.agg [.bool a, .str s], .agg [.bool b, .str t]] .empty = some (addP a (nv s) (!b && !(Nat.beq (nv t) 0)) (nv t), h') := by
  refine run_of (fn := of9) rfl rfl ?_
  show WK _ _ [] ⟨[.agg [.bool a, .str s], .agg [.bool b, .str t], aundef], .empty⟩ _
  dsimp only [of9]
  obtain ⟨g0, g1, g2⟩ := hp3 (c0 := [.bool a, .str s]) (c1 := [.bool b, .str t]) (c2 := [.bool false, .str []])
  obtain ⟨H, hH⟩ : ∃ H, H = ((AHeap.empty.push (.cells [.bool a, .str s] true)).push (.cells [.bool b, .str t] true)).push (.cells [.bool false, .str []] true) := ⟨_, rfl⟩
  rw [← hH] at g0 g1 g2
  have cn : ∀ h, lim otab.get D16 (.fn 35) [.agg [.bool b, .str t]] h = some (.agg [.bool (!b && !(Nat.beq (nv t) 0)), .str t], h) := fun h => by
    rw [← kcan_nil ht]; exact lim_oracle rfl
  have ca : ∀ c h, lim otab.get D16 (.fn 34) [.agg [.bool a, .str s], .agg [.bool c, .str t]] h = some (addP a (nv s) c (nv t), h) := fun c h => lim_oracle (ext_hit (by
    show (bif kcan s && kcan t then frc (kv s) fun x => frc (kv t) fun y => addQ a x c y else none) = _
    rw [hs, ht, frc_eq, frc_eq, kv_eq, kv_eq, addQ_eq]; rfl))
  obtain ⟨c', v', hv⟩ : ∃ c' v', addP a (nv s) (!b && !(Nat.beq (nv t) 0)) (nv t) = .agg [.bool c', .str v'] := by
    unfold addP
    cases a == (!b && !(Nat.beq (nv t) 0)) with
    | true => exact ⟨_, _, rfl⟩
    | false =>
      rw [cond_false]
      by_cases h : nv s < nv t
      · rw [if_pos h]; exact ⟨_, _, rfl⟩
      · rw [if_neg h]; exact ⟨_, _, rfl⟩
  simp only [RSd.down, WOs_box, bxA, alA, celA, AHeap.next_push, Nat.zero_add]
  rw [← hH]
  simp only [RSd.down, WDs_load, l2S g0, l2S g1, WDV_succ, WDE_some, checks, lower, recheck, AOp.cls, AV.beq_refl, cond_true, true_and, cn, ca, hv, WDs_store, evalE_stI, stI2 (x := .bool c') (y := .str v') g2 rfl rfl, Ret_ret]
  exact resC (l2S (AHeap.get_set_same _ _ _))
noncomputable def D17 : Oracle := ext D16 9 subI
theorem D17_ok : IOK Go.Proofs.Tryz.prog D17 := IOK.extL mixed tabOK otabOK D16_ok (g := 9) (fn := af9) rfl fun args av h => by
  unfold subI at h
  split at h
  · obtain ⟨h1, h2⟩ := bif_run h
    rw [Bool.and_eq_true] at h1
    rw [frc_eq, frc_eq, kv_eq, kv_eq, neg_eq, addQ_eq] at h2
    cases h2
    exact ⟨rfl, addP_plain _ _ _ _, rsub2_run h1.1 h1.2⟩
  · cases h
/-- Compare of positive integers -/
noncomputable def icmS : List AV → Option AV
  | [.agg [.bool false, .str s], .agg [.bool false, .str t]] => bif kcan s && kcan t && (!decide (s = []) && !decide (t = [])) then some (.int .i64 (cmpN (nv s) (nv t))) else none
  | _ => none
theorem icm_run {s t : List Nat} (hs : kcan s = true) (ht : kcan t = true) (s0 : ¬ s = []) (t0 : ¬ t = []) : ∃ h', lim otab.get D17 (.fn 12) [.agg [.bool false, .str s], .agg [.bool false, .str t]] .empty = some (.int .i64 (cmpN (nv s) (nv t)), h') := by
  refine run_of (fn := of12) rfl rfl ?_
  show WK _ _ [] ⟨[.agg [.bool false, .str s], .agg [.bool false, .str t], aundef, aundef, aundef], .empty⟩ _
  dsimp only [of12]
  obtain ⟨g0, g1⟩ := hp2 (c0 := [.bool false, .str s]) (c1 := [.bool false, .str t])
  obtain ⟨H, hH⟩ : ∃ H, H = (AHeap.empty.push (.cells [.bool false, .str s] true)).push (.cells [.bool false, .str t] true) := ⟨_, rfl⟩
  rw [← hH] at g0 g1
  have c1 : ∀ h, lim otab.get D17 (.fn 8) [.agg [.bool false, .str s]] h = some (.int .i64 1, h) := fun h => by
    have : lim otab.get D17 (.fn 8) [.agg [.bool false, .str s]] h = some (.int .i64 (if s = [] then 0 else 1), h) := lim_oracle rfl
    rw [if_neg s0] at this
    exact this
  have c2 : ∀ h, lim otab.get D17 (.fn 8) [.agg [.bool false, .str t]] h = some (.int .i64 1, h) := fun h => by
    have : lim otab.get D17 (.fn 8) [.agg [.bool false, .str t]] h = some (.int .i64 (if t = [] then 0 else 1), h) := lim_oracle rfl
    rw [if_neg t0] at this
    exact this
  have c3 : ∀ h, lim otab.get D17 (.fn 39) [.str s, .str t] h = some (.int .i64 (cmpN (nv s) (nv t)), h) := fun h => lim_oracle (or_hit (spec := ncmpS) (by
    show (bif canB s && canB t then some (AV.int .i64 (cmpN (nv s) (nv t))) else none) = _
    rw [(kcan_ok hs).2, (kcan_ok ht).2]; rfl))
  simp only [RSd.down, WOs_box, bxA, celA, AHeap.next_push, Nat.zero_add]
  rw [← hH]
  simp only [RSd.down, WDs_load, l2S g0, l2S g1, WDV_succ, WDE_some, checks, lower, recheck, AOp.cls, AV.beq_refl, cond_true, true_and, c1, c2, lss_int, gtr_int, show decide ((1 : Int) < 1) = false from rfl, show decide ((1 : Int) < 0) = false from rfl, WOs_faddr, evalQ_fadI, fadI_1, l21 g0, l21 g1, c3, Ret_ret, result_1]
noncomputable def D18 : Oracle := ext D17 12 icmS
theorem D18_ok : IOK Go.Proofs.Tryz.prog D18 := IOK.extL mixed tabOK otabOK D17_ok (g := 12) (fn := af12) rfl fun args av h => by
  unfold icmS at h
  split at h
  · obtain ⟨h1, rfl⟩ := bif_some h
    simp only [Bool.and_eq_true, Bool.not_eq_true', decide_eq_false_iff_not] at h1
    exact ⟨rfl, rfl, icm_run h1.1.1 h1.1.2 h1.2.1 h1.2.2⟩
  · cases h
noncomputable def D19 : Oracle := ext D18 10 mulI
theorem D19_ok : IOK Go.Proofs.Tryz.prog D19 := IOK.join D18_ok U8_ok fun args av h e => ext_hit e
noncomputable def D20 : Oracle := ext D19 11 ofI
theorem D20_ok : IOK Go.Proofs.Tryz.prog D20 := IOK.join D19_ok U12_ok fun args av h e => ext_hit e
noncomputable def D21 : Oracle := ext D20 4 isFundS
theorem D21_ok : IOK Go.Proofs.Tryz.prog D21 := IOK.join D20_ok U3_ok fun args av h e => ext_hit e
noncomputable def D22 : Oracle := ext D21 5 awakeS
theorem D22_ok : IOK Go.Proofs.Tryz.prog D22 := IOK.join D21_ok awakeOK fun args av h e => ext_hit e
end Go.AM
