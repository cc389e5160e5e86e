/- The program's reduction: what the code computes. No condition. -/
import Derived.Test.YtemmnocgkgoegaaRed4
set_option maxRecDepth 100000
set_option linter.unusedSimpArgs false
set_option linter.unusedVariables false
namespace Go.AM
open Go
theorem eqF {f g : F3} : bin .eql (.flat [1, 1, 1]) (fVt g) (fVt f) = some (.bool (decide (g = f))) := by
  obtain ⟨a, b, c⟩ := f
  obtain ⟨a', b', c'⟩ := g
  have e : eqCells [1, 1, 1] (fC a' b' c') (fC a b c) = some (decide (a' = a ∧ b' = b ∧ c' = c)) := by
    show (match some (ieq a' a) with | some true => (match some (ieq b' b) with | some true => (match some (ieq c' c) with | some true => some true | r => r) | r => r) | r => r) = _
    rw [ieq_eq, ieq_eq, ieq_eq]
    by_cases h1 : a' = a <;> by_cases h2 : b' = b <;> by_cases h3 : c' = c <;> simp [h1, h2, h3]
  show (match (if (fC a' b' c').length = 3 ∧ (fC a b c).length = 3 then eqCells [1, 1, 1] (fC a' b' c') (fC a b c) else none) with | some b => some (AV.bool b) | none => none) = _
  rw [if_pos ⟨rfl, rfl⟩, e]
  simp only [Prod.mk.injEq]
theorem result_cell2 {a b : Nat} {tm : List AV} {h : AHeap} {v : AV} (hl : loadV (some 3) (nth tm a) h = some v) : result [.cell a (some 3), .tmp b] tm h = some (.tup [v, nth tm b]) := by
  have e : resOf tm h (.cell a (some 3)) = some v := hl
  have e2 : resOf tm h (.tmp b) = some (nth tm b) := rfl
  simp only [result, resOfs, e, e2]
section
variable {K : List Fr} {Q : AX → St → Prop}
theorem c_stp6 {f : F3} {h : AHeap} (hv : VT f) : lim otab.get K6 (.fn 59) [fVt f] h = some (fVt (stp f), h) := by
  obtain ⟨A, B, C⟩ := f
  exact lim_oracle (or_hit (spec := stpS) (if_pos hv))
noncomputable def redB : ACode := match of25.body with | .seq _ (.seq _ (.seq _ (.seq _ (.block _ (.loop b))))) => b | c => c

theorem red_loop : ∀ (m : Nat) (f : F3) (h : AHeap) (y0 y3 y4 y5 y6 y7 y8 y9 y10 y11 y12 y13 y14 y15 y16 y17 y18 y19 y20 y21 y22 y23 y24 y25 y26 y27 y28 y29 y30 y31 y32 y33 y34 y35 y36 y37 y38 y39 y40 y41 y42 y43 y44 y45 y46 : AV), VT f → (∃ j, j ≤ m ∧ isRed (itr j f)) → 2 ≤ h.next → h.get 0 = some (.cells (fCt f) true) → h.get 1 = some (.cells [.int .i64 0, .int .i64 0, .int .i64 0] true) →
    (∀ (h' : AHeap) (z0 z4 z5 z6 z7 z8 z9 z10 z11 z12 z13 z14 z15 z16 z17 z18 z19 z20 z21 z22 z23 z24 z25 z26 z27 z28 z29 z30 z31 z32 z33 z34 z35 z36 z37 z38 z39 z40 z41 z42 z43 z44 z45 z46 : AV), h'.get 1 = some (.cells (fCt (rdF m f)) true) → WX (lim otab.get K6) .ret K ⟨(z0 :: .ptr 0 0 :: .ptr 1 0 :: .int .i64 0 :: z4 :: z5 :: z6 :: z7 :: z8 :: z9 :: z10 :: z11 :: z12 :: z13 :: z14 :: z15 :: z16 :: z17 :: z18 :: z19 :: z20 :: z21 :: z22 :: z23 :: z24 :: z25 :: z26 :: z27 :: z28 :: z29 :: z30 :: z31 :: z32 :: z33 :: z34 :: z35 :: z36 :: z37 :: z38 :: z39 :: z40 :: z41 :: z42 :: z43 :: z44 :: z45 :: z46 :: []), h'⟩ Q) →
    WK (lim otab.get K6) (.loop redB) K ⟨(y0 :: .ptr 0 0 :: .ptr 1 0 :: y3 :: y4 :: y5 :: y6 :: y7 :: y8 :: y9 :: y10 :: y11 :: y12 :: y13 :: y14 :: y15 :: y16 :: y17 :: y18 :: y19 :: y20 :: y21 :: y22 :: y23 :: y24 :: y25 :: y26 :: y27 :: y28 :: y29 :: y30 :: y31 :: y32 :: y33 :: y34 :: y35 :: y36 :: y37 :: y38 :: y39 :: y40 :: y41 :: y42 :: y43 :: y44 :: y45 :: y46 :: []), h⟩ Q := by
  intro m
  induction m with
  | zero =>
    intro f h y0 y3 y4 y5 y6 y7 y8 y9 y10 y11 y12 y13 y14 y15 y16 y17 y18 y19 y20 y21 y22 y23 y24 y25 y26 y27 y28 y29 y30 y31 y32 y33 y34 y35 y36 y37 y38 y39 y40 y41 y42 y43 y44 y45 y46 hf hj hn g0 g1 hQ
    obtain ⟨j, j1, j2⟩ := hj
    have hj0 : j = 0 := by omega
    subst hj0
    have hr : isRed f := j2
    have hs := stp_red hf hr
    refine WK_loop' (by dsimp only [redB, of25, af25]) ?_
    have n0 : (h.push (.cells [.int .i64 0, .int .i64 0, .int .i64 0] true)).get h.next = some (.cells [.int .i64 0, .int .i64 0, .int .i64 0] true) := AHeap.get_push_same h _
    have k0 : ((h.push (.cells [.int .i64 0, .int .i64 0, .int .i64 0] true)).set h.next (.cells (fCt f) true)).get 0 = some (.cells (fCt f) true) := by
      rw [AHeap.get_set_ne _ _ (by omega), AHeap.get_push_lt _ _ (by omega)]; exact g0
    have k1 : ((h.push (.cells [.int .i64 0, .int .i64 0, .int .i64 0] true)).set h.next (.cells (fCt f) true)).get 1 = some (.cells [.int .i64 0, .int .i64 0, .int .i64 0] true) := by
      rw [AHeap.get_set_ne _ _ (by omega), AHeap.get_push_lt _ _ (by omega)]; exact g1
    simp only [WK_skip, WK_seq, WX_seq, WX_seq_exit, WX_seq_ret, WK_block, WX_block, WX_block_ret, WX_block_eq, WK_exit, WK_ret, WK_scope, WK_cond, WK_ops, WK_draw, WX_loop, WX_loop_exit, WX_loop_ret, WX_nil, WB_true, WB_false, WOs_nil, WDs_nil, WV_some, WA_some, WE_some, WDV_zero, WDE_none, putD_some, putD_none, WOs_g, WG_tt, WG_ff, WG_tf, WG_ft, WG_un, WOs_mov, WOs_bin, WOs_un, WOs_pick, WOs_toInt, WOs_len, WOs_load, WOs_iaddr, WOs_indexS, WOs_extr, WOs_field, WOs_toStr, WOs_call, WOs_store, WOs_append, WOs_slice, WOs_mx, WOs_mn, WOs_build, WOs_bslice, WOs_mkslice, WOs_alloc, WOs_lenA, WDs_mov, WDs_bin, WDs_call, evalQ_mov, evalQ_bin, evalQ_un, evalQ_pick, evalQ_toInt, evalQ_len, evalQ_load, evalQ_iaddr, evalQ_indexS, evalQ_extr, evalQ_field, evalQ_mx, evalQ_mn, evalQ_lenA, evalE_fn, evalE_append, evs_cons, evs_nil, ev_tmp, ev_lit, nth_zero, nth_succ, put_zero, put_succ, pickV_tt, pickV_ff, extrV_0, extrV_1, extrV_2, ldS g0, c_stp6 hf, hs, evalA_alloc, evalE_store, stV3 (x := .int .i64 f.1) (y := .int .i64 f.2.1) (z := .int .i64 f.2.2) n0 rfl rfl rfl, ldsS, ldS k0, eqF, decide_true, stV3 (x := .int .i64 f.1) (y := .int .i64 f.2.1) (z := .int .i64 f.2.2) k1 rfl rfl rfl]
    exact hQ _ _ _ _ _ _ _ _ _ _ _ _ _ _ _ _ _ _ _ _ _ _ _ _ _ _ _ _ _ _ _ _ _ _ _ _ _ _ _ _ _ _ _ _ _ (AHeap.get_set_same _ _ _)
  | succ m ih =>
    intro f h y0 y3 y4 y5 y6 y7 y8 y9 y10 y11 y12 y13 y14 y15 y16 y17 y18 y19 y20 y21 y22 y23 y24 y25 y26 y27 y28 y29 y30 y31 y32 y33 y34 y35 y36 y37 y38 y39 y40 y41 y42 y43 y44 y45 y46 hf hj hn g0 g1 hQ
    unfold rdF at hQ
    refine WK_loop' (by dsimp only [redB, of25, af25]) ?_
    have n0 : (h.push (.cells [.int .i64 0, .int .i64 0, .int .i64 0] true)).get h.next = some (.cells [.int .i64 0, .int .i64 0, .int .i64 0] true) := AHeap.get_push_same h _
    have k0 : ∀ l, ((h.push (.cells [.int .i64 0, .int .i64 0, .int .i64 0] true)).set h.next (.cells l true)).get 0 = some (.cells (fCt f) true) := by
      intro l; rw [AHeap.get_set_ne _ _ (by omega), AHeap.get_push_lt _ _ (by omega)]; exact g0
    have k1 : ∀ l, ((h.push (.cells [.int .i64 0, .int .i64 0, .int .i64 0] true)).set h.next (.cells l true)).get 1 = some (.cells [.int .i64 0, .int .i64 0, .int .i64 0] true) := by
      intro l; rw [AHeap.get_set_ne _ _ (by omega), AHeap.get_push_lt _ _ (by omega)]; exact g1
    by_cases hr : isRed f
    · simp only [if_pos hr] at hQ
      have hs := stp_red hf hr
      simp only [WK_skip, WK_seq, WX_seq, WX_seq_exit, WX_seq_ret, WK_block, WX_block, WX_block_ret, WX_block_eq, WK_exit, WK_ret, WK_scope, WK_cond, WK_ops, WK_draw, WX_loop, WX_loop_exit, WX_loop_ret, WX_nil, WB_true, WB_false, WOs_nil, WDs_nil, WV_some, WA_some, WE_some, WDV_zero, WDE_none, putD_some, putD_none, WOs_g, WG_tt, WG_ff, WG_tf, WG_ft, WG_un, WOs_mov, WOs_bin, WOs_un, WOs_pick, WOs_toInt, WOs_len, WOs_load, WOs_iaddr, WOs_indexS, WOs_extr, WOs_field, WOs_toStr, WOs_call, WOs_store, WOs_append, WOs_slice, WOs_mx, WOs_mn, WOs_build, WOs_bslice, WOs_mkslice, WOs_alloc, WOs_lenA, WDs_mov, WDs_bin, WDs_call, evalQ_mov, evalQ_bin, evalQ_un, evalQ_pick, evalQ_toInt, evalQ_len, evalQ_load, evalQ_iaddr, evalQ_indexS, evalQ_extr, evalQ_field, evalQ_mx, evalQ_mn, evalQ_lenA, evalE_fn, evalE_append, evs_cons, evs_nil, ev_tmp, ev_lit, nth_zero, nth_succ, put_zero, put_succ, pickV_tt, pickV_ff, extrV_0, extrV_1, extrV_2, ldS g0, c_stp6 hf, hs, evalA_alloc, evalE_store, stV3 (x := .int .i64 f.1) (y := .int .i64 f.2.1) (z := .int .i64 f.2.2) n0 rfl rfl rfl, ldsS, ldS (k0 _), eqF, decide_true, stV3 (x := .int .i64 f.1) (y := .int .i64 f.2.1) (z := .int .i64 f.2.2) (k1 _) rfl rfl rfl]
      exact hQ _ _ _ _ _ _ _ _ _ _ _ _ _ _ _ _ _ _ _ _ _ _ _ _ _ _ _ _ _ _ _ _ _ _ _ _ _ _ _ _ _ _ _ _ _ (AHeap.get_set_same _ _ _)
    · simp only [if_neg hr] at hQ
      have hs : (stp f = f) = False := eq_false fun e => hr (red_stp hf e)
      obtain ⟨j, j1, j2⟩ := hj
      have hj' : ∃ j, j ≤ m ∧ isRed (itr j (stp f)) := by
        cases j with
        | zero => exact absurd j2 hr
        | succ j => exact ⟨j, by omega, j2⟩
      simp only [WK_skip, WK_seq, WX_seq, WX_seq_exit, WX_seq_ret, WK_block, WX_block, WX_block_ret, WX_block_eq, WK_exit, WK_ret, WK_scope, WK_cond, WK_ops, WK_draw, WX_loop, WX_loop_exit, WX_loop_ret, WX_nil, WB_true, WB_false, WOs_nil, WDs_nil, WV_some, WA_some, WE_some, WDV_zero, WDE_none, putD_some, putD_none, WOs_g, WG_tt, WG_ff, WG_tf, WG_ft, WG_un, WOs_mov, WOs_bin, WOs_un, WOs_pick, WOs_toInt, WOs_len, WOs_load, WOs_iaddr, WOs_indexS, WOs_extr, WOs_field, WOs_toStr, WOs_call, WOs_store, WOs_append, WOs_slice, WOs_mx, WOs_mn, WOs_build, WOs_bslice, WOs_mkslice, WOs_alloc, WOs_lenA, WDs_mov, WDs_bin, WDs_call, evalQ_mov, evalQ_bin, evalQ_un, evalQ_pick, evalQ_toInt, evalQ_len, evalQ_load, evalQ_iaddr, evalQ_indexS, evalQ_extr, evalQ_field, evalQ_mx, evalQ_mn, evalQ_lenA, evalE_fn, evalE_append, evs_cons, evs_nil, ev_tmp, ev_lit, nth_zero, nth_succ, put_zero, put_succ, pickV_tt, pickV_ff, extrV_0, extrV_1, extrV_2, ldS g0, c_stp6 hf, evalA_alloc, evalE_store, stV3 (x := .int .i64 (stp f).1) (y := .int .i64 (stp f).2.1) (z := .int .i64 (stp f).2.2) n0 rfl rfl rfl, ldsS, ldS (k0 _), eqF, hs, decide_false, stV3 (x := .int .i64 (stp f).1) (y := .int .i64 (stp f).2.1) (z := .int .i64 (stp f).2.2) (k0 _) rfl rfl rfl]
      refine ih (stp f) _ _ _ _ _ _ _ _ _ _ _ _ _ _ _ _ _ _ _ _ _ _ _ _ _ _ _ _ _ _ _ _ _ _ _ _ _ _ _ _ _ _ _ _ _ _ hf.step hj' (by simp; omega) (AHeap.get_set_same _ _ _) ?_ hQ
      rw [AHeap.get_set_ne _ _ (by decide)]; exact k1 _
end
/-- Reduce -/
noncomputable def redV (A B C : Int) : AV := open Classical in if bd [A, B, C] = 0 then (if 0 < A ∧ B * B - 4 * A * C < 0 then .tup [fVt (rd (A, B, C)), .int .i64 0] else .tup [fV 0 0 0, .int .i64 3]) else .tup [fV 0 0 0, .int .i64 4]
theorem bd_three {a b c : Int} (h : bd [a, b, c] = 0) : lim5 a ∧ lim5 b ∧ lim5 c := by
  simp only [bd] at h
  unfold lim5
  rcases lg_cases a with ⟨h1, h1'⟩ | ⟨h1, _⟩
  · rcases lg_cases b with ⟨h2, h2'⟩ | ⟨h2, _⟩
    · rcases lg_cases c with ⟨h3, h3'⟩ | ⟨h3, _⟩
      · exact ⟨h1', h2', h3'⟩
      · simp [h1, h2, h3] at h
    · simp [h1, h2] at h
  · simp [h1] at h
theorem VF_of {A B C : Int} (ha : lim5 A) (hb : lim5 B) (hc : lim5 C) (h0 : 0 < A) (hd : B * B - 4 * A * C < 0) : VF A B C := by
  have e : 4 * A * C = 4 * (A * C) := Int.mul_assoc 4 A C
  have h1 := mul_le_abs ha.1 ha.2 hc.1 hc.2
  have h2 := sq_le hb.1 hb.2
  exact ⟨by omega, ha.2, hb.1, hb.2, by omega, by omega⟩
theorem red_run (A B C : Int) : ∃ h', lim otab.get K6 (.fn 25) [fV A B C] .empty = some (redV A B C, h') := by
  refine run_of (fn := of25) rfl rfl ?_
  show WK _ _ [] ⟨(fV A B C :: aundef :: aundef :: aundef :: aundef :: aundef :: aundef :: aundef :: aundef :: aundef :: aundef :: aundef :: aundef :: aundef :: aundef :: aundef :: aundef :: aundef :: aundef :: aundef :: aundef :: aundef :: aundef :: aundef :: aundef :: aundef :: aundef :: aundef :: aundef :: aundef :: aundef :: aundef :: aundef :: aundef :: aundef :: aundef :: aundef :: aundef :: aundef :: aundef :: aundef :: aundef :: aundef :: aundef :: aundef :: aundef :: aundef :: []), .empty⟩ _
  dsimp only [of25, af25]
  obtain ⟨H, hH⟩ : ∃ H, H = (AHeap.empty.push (.cells (fC A B C) true)).push (.cells [.int .i64 0, .int .i64 0, .int .i64 0] true) := ⟨_, rfl⟩
  have g0 : H.get 0 = some (.cells (fC A B C) true) := by
    rw [hH, AHeap.get_push_lt _ _ (by simp)]; exact AHeap.get_push_same AHeap.empty _
  have g1 : H.get 1 = some (.cells [.int .i64 0, .int .i64 0, .int .i64 0] true) := by
    rw [hH]; exact AHeap.get_push_same (AHeap.empty.push (.cells (fC A B C) true)) _
  have hnx : H.next = 2 := by rw [hH]; rfl
  have hI : ∀ a h, K6 39 a h = none := fun _ _ => rfl
  simp only [WK_skip, WK_seq, WX_seq, WX_seq_exit, WX_seq_ret, WK_block, WX_block, WX_block_ret, WX_block_eq, WK_exit, WK_ret, WK_scope, WK_cond, WK_ops, WK_draw, WX_loop, WX_loop_exit, WX_loop_ret, WX_nil, WB_true, WB_false, WOs_nil, WDs_nil, WV_some, WA_some, WE_some, WDV_zero, WDE_none, putD_some, putD_none, WOs_g, WG_tt, WG_ff, WG_tf, WG_ft, WG_un, WOs_mov, WOs_bin, WOs_un, WOs_pick, WOs_toInt, WOs_len, WOs_load, WOs_iaddr, WOs_indexS, WOs_extr, WOs_field, WOs_toStr, WOs_call, WOs_store, WOs_append, WOs_slice, WOs_mx, WOs_mn, WOs_build, WOs_bslice, WOs_mkslice, WOs_alloc, WOs_lenA, WDs_mov, WDs_bin, WDs_call, evalQ_mov, evalQ_bin, evalQ_un, evalQ_pick, evalQ_toInt, evalQ_len, evalQ_load, evalQ_iaddr, evalQ_indexS, evalQ_extr, evalQ_field, evalQ_mx, evalQ_mn, evalQ_lenA, evalE_fn, evalE_append, evs_cons, evs_nil, ev_tmp, ev_lit, nth_zero, nth_succ, put_zero, put_succ, pickV_tt, pickV_ff, extrV_0, extrV_1, extrV_2, WOs_box, evalA_box, cells_agg, evalA_alloc, AHeap.next_push, Nat.zero_add]
  rw [show ((AHeap.empty.push (.cells (fC A B C) true)).push (.cells [.int .i64 0, .int .i64 0, .int .i64 0] true)) = H from hH.symm]
  simp only [WK_skip, WK_seq, WX_seq, WX_seq_exit, WX_seq_ret, WK_block, WX_block, WX_block_ret, WX_block_eq, WK_exit, WK_ret, WK_scope, WK_cond, WK_ops, WK_draw, WX_loop, WX_loop_exit, WX_loop_ret, WX_nil, WB_true, WB_false, WOs_nil, WDs_nil, WV_some, WA_some, WE_some, WDV_zero, WDE_none, putD_some, putD_none, WOs_g, WG_tt, WG_ff, WG_tf, WG_ft, WG_un, WOs_mov, WOs_bin, WOs_un, WOs_pick, WOs_toInt, WOs_len, WOs_load, WOs_iaddr, WOs_indexS, WOs_extr, WOs_field, WOs_toStr, WOs_call, WOs_store, WOs_append, WOs_slice, WOs_mx, WOs_mn, WOs_build, WOs_bslice, WOs_mkslice, WOs_alloc, WOs_lenA, WDs_mov, WDs_bin, WDs_call, evalQ_mov, evalQ_bin, evalQ_un, evalQ_pick, evalQ_toInt, evalQ_len, evalQ_load, evalQ_iaddr, evalQ_indexS, evalQ_extr, evalQ_field, evalQ_mx, evalQ_mn, evalQ_lenA, evalE_fn, evalE_append, evs_cons, evs_nil, ev_tmp, ev_lit, nth_zero, nth_succ, put_zero, put_succ, pickV_tt, pickV_ff, extrV_0, extrV_1, extrV_2, WOs_faddr, evalQ_faddr, faddrV_0, faddrV_1, faddrV_2, ld0 g0, ld1 g0, ld2 g0]
  rw [bslice3 (v := .int .i64 A) (w := .int .i64 B) (q := .int .i64 C) rfl rfl rfl rfl rfl rfl]
  have p0 : (H.push (.cells (fC A B C) true)).get 0 = some (.cells (fC A B C) true) := by rw [AHeap.get_push_lt _ _ (by omega)]; exact g0
  have p1 : (H.push (.cells (fC A B C) true)).get 1 = some (.cells [.int .i64 0, .int .i64 0, .int .i64 0] true) := by rw [AHeap.get_push_lt _ _ (by omega)]; exact g1
  have hb := bounded_3 hI (h := H) (n := A) (m := B) (q := C)
  have hbld : ∀ (tm : List AV) (h : AHeap), evalQ (.build [.int .i64 0, .int .i64 0, .int .i64 0] []) tm h = some (fV 0 0 0) := fun _ _ => rfl
  have f40 : ((4 : Int) = 0) = False := by simp
  have f30 : ((3 : Int) = 0) = False := by simp
  have st0 := stV3 (x := .int .i64 0) (y := .int .i64 0) (z := .int .i64 0) p1 rfl rfl rfl
  unfold redV
  rcases bd_cases [A, B, C] with hz | hz
  · obtain ⟨l1, l2, l3⟩ := bd_three hz
    have m1 := mul_le_abs l2.1 l2.2 l2.1 l2.2
    have a1 := l1.1
    have a2 := l1.2
    have m2 := mul_le_abs (x := 4 * A) (y := C) (X := 400000) (Y := 100000) (by omega) (by omega) l3.1 l3.2
    by_cases hA : A ≤ 0
    · have hn : ¬ (0 < A ∧ B * B - 4 * A * C < 0) := by omega
      simp only [hb, hz, if_true, hn, if_false, WK_skip, WK_seq, WX_seq, WX_seq_exit, WX_seq_ret, WK_block, WX_block, WX_block_ret, WX_block_eq, WK_exit, WK_ret, WK_scope, WK_cond, WK_ops, WK_draw, WX_loop, WX_loop_exit, WX_loop_ret, WX_nil, WB_true, WB_false, WOs_nil, WDs_nil, WV_some, WA_some, WE_some, WDV_zero, WDE_none, putD_some, putD_none, WOs_g, WG_tt, WG_ff, WG_tf, WG_ft, WG_un, WOs_mov, WOs_bin, WOs_un, WOs_pick, WOs_toInt, WOs_len, WOs_load, WOs_iaddr, WOs_indexS, WOs_extr, WOs_field, WOs_toStr, WOs_call, WOs_store, WOs_append, WOs_slice, WOs_mx, WOs_mn, WOs_build, WOs_bslice, WOs_mkslice, WOs_alloc, WOs_lenA, WDs_mov, WDs_bin, WDs_call, evalQ_mov, evalQ_bin, evalQ_un, evalQ_pick, evalQ_toInt, evalQ_len, evalQ_load, evalQ_iaddr, evalQ_indexS, evalQ_extr, evalQ_field, evalQ_mx, evalQ_mn, evalQ_lenA, evalE_fn, evalE_append, evs_cons, evs_nil, ev_tmp, ev_lit, nth_zero, nth_succ, put_zero, put_succ, pickV_tt, pickV_ff, extrV_0, extrV_1, extrV_2, WOs_faddr, evalQ_faddr, faddrV_0, ld0 p0, eql_int, neq_int, leq_int, hA, decide_true, hbld, evalE_store, st0, ne_eq, f30, not_false_eq_true, Ret_ret]
      exact result_cell2 ldsS
    · by_cases hD : 0 ≤ B * B - 4 * A * C
      · have hn : ¬ (0 < A ∧ B * B - 4 * A * C < 0) := by omega
        simp (disch := omega) only [hb, hz, if_true, hn, if_false, WK_skip, WK_seq, WX_seq, WX_seq_exit, WX_seq_ret, WK_block, WX_block, WX_block_ret, WX_block_eq, WK_exit, WK_ret, WK_scope, WK_cond, WK_ops, WK_draw, WX_loop, WX_loop_exit, WX_loop_ret, WX_nil, WB_true, WB_false, WOs_nil, WDs_nil, WV_some, WA_some, WE_some, WDV_zero, WDE_none, putD_some, putD_none, WOs_g, WG_tt, WG_ff, WG_tf, WG_ft, WG_un, WOs_mov, WOs_bin, WOs_un, WOs_pick, WOs_toInt, WOs_len, WOs_load, WOs_iaddr, WOs_indexS, WOs_extr, WOs_field, WOs_toStr, WOs_call, WOs_store, WOs_append, WOs_slice, WOs_mx, WOs_mn, WOs_build, WOs_bslice, WOs_mkslice, WOs_alloc, WOs_lenA, WDs_mov, WDs_bin, WDs_call, evalQ_mov, evalQ_bin, evalQ_un, evalQ_pick, evalQ_toInt, evalQ_len, evalQ_load, evalQ_iaddr, evalQ_indexS, evalQ_extr, evalQ_field, evalQ_mx, evalQ_mn, evalQ_lenA, evalE_fn, evalE_append, evs_cons, evs_nil, ev_tmp, ev_lit, nth_zero, nth_succ, put_zero, put_succ, pickV_tt, pickV_ff, extrV_0, extrV_1, extrV_2, WOs_faddr, evalQ_faddr, faddrV_0, faddrV_1, faddrV_2, ld0 p0, ld1 p0, ld2 p0, eql_int, neq_int, leq_int, geq_int, mul_i64, sub_i64, hA, hD, decide_true, decide_false, hbld, evalE_store, st0, ne_eq, f30, not_false_eq_true, Ret_ret]
        exact result_cell2 ldsS
      · have hn : 0 < A ∧ B * B - 4 * A * C < 0 := by omega
        have hv := VF_of l1 l2 l3 hn.1 hn.2
        simp (disch := omega) only [hb, hz, if_true, hn, and_self, WK_skip, WK_seq, WX_seq, WX_seq_exit, WX_seq_ret, WK_block, WX_block, WX_block_ret, WX_block_eq, WK_exit, WK_ret, WK_scope, WK_cond, WK_ops, WK_draw, WX_loop, WX_loop_exit, WX_loop_ret, WX_nil, WB_true, WB_false, WOs_nil, WDs_nil, WV_some, WA_some, WE_some, WDV_zero, WDE_none, putD_some, putD_none, WOs_g, WG_tt, WG_ff, WG_tf, WG_ft, WG_un, WOs_mov, WOs_bin, WOs_un, WOs_pick, WOs_toInt, WOs_len, WOs_load, WOs_iaddr, WOs_indexS, WOs_extr, WOs_field, WOs_toStr, WOs_call, WOs_store, WOs_append, WOs_slice, WOs_mx, WOs_mn, WOs_build, WOs_bslice, WOs_mkslice, WOs_alloc, WOs_lenA, WDs_mov, WDs_bin, WDs_call, evalQ_mov, evalQ_bin, evalQ_un, evalQ_pick, evalQ_toInt, evalQ_len, evalQ_load, evalQ_iaddr, evalQ_indexS, evalQ_extr, evalQ_field, evalQ_mx, evalQ_mn, evalQ_lenA, evalE_fn, evalE_append, evs_cons, evs_nil, ev_tmp, ev_lit, nth_zero, nth_succ, put_zero, put_succ, pickV_tt, pickV_ff, extrV_0, extrV_1, extrV_2, WOs_faddr, evalQ_faddr, faddrV_0, faddrV_1, faddrV_2, ld0 p0, ld1 p0, ld2 p0, eql_int, neq_int, leq_int, geq_int, mul_i64, sub_i64, hA, hD, decide_true, decide_false, ne_eq, not_true_eq_false]
        refine red_loop 30 (A, B, C) _ _ _ _ _ _ _ _ _ _ _ _ _ _ _ _ _ _ _ _ _ _ _ _ _ _ _ _ _ _ _ _ _ _ _ _ _ _ _ _ _ _ _ _ _ _ hv (reach hv) (by simp; omega) p0 p1 ?_
        intro h' z0 z4 z5 z6 z7 z8 z9 z10 z11 z12 z13 z14 z15 z16 z17 z18 z19 z20 z21 z22 z23 z24 z25 z26 z27 z28 z29 z30 z31 z32 z33 z34 z35 z36 z37 z38 z39 z40 z41 z42 z43 z44 z45 z46 k1
        simp only [WK_skip, WK_seq, WX_seq, WX_seq_exit, WX_seq_ret, WK_block, WX_block, WX_block_ret, WX_block_eq, WK_exit, WK_ret, WK_scope, WK_cond, WK_ops, WK_draw, WX_loop, WX_loop_exit, WX_loop_ret, WX_nil, WB_true, WB_false, WOs_nil, WDs_nil, WV_some, WA_some, WE_some, WDV_zero, WDE_none, putD_some, putD_none, WOs_g, WG_tt, WG_ff, WG_tf, WG_ft, WG_un, WOs_mov, WOs_bin, WOs_un, WOs_pick, WOs_toInt, WOs_len, WOs_load, WOs_iaddr, WOs_indexS, WOs_extr, WOs_field, WOs_toStr, WOs_call, WOs_store, WOs_append, WOs_slice, WOs_mx, WOs_mn, WOs_build, WOs_bslice, WOs_mkslice, WOs_alloc, WOs_lenA, WDs_mov, WDs_bin, WDs_call, evalQ_mov, evalQ_bin, evalQ_un, evalQ_pick, evalQ_toInt, evalQ_len, evalQ_load, evalQ_iaddr, evalQ_indexS, evalQ_extr, evalQ_field, evalQ_mx, evalQ_mn, evalQ_lenA, evalE_fn, evalE_append, evs_cons, evs_nil, ev_tmp, ev_lit, nth_zero, nth_succ, put_zero, put_succ, pickV_tt, pickV_ff, extrV_0, extrV_1, extrV_2, Ret_ret]
        exact result_cell2 (ldS k1)
  · simp only [hb, hz, f40, if_false, WK_skip, WK_seq, WX_seq, WX_seq_exit, WX_seq_ret, WK_block, WX_block, WX_block_ret, WX_block_eq, WK_exit, WK_ret, WK_scope, WK_cond, WK_ops, WK_draw, WX_loop, WX_loop_exit, WX_loop_ret, WX_nil, WB_true, WB_false, WOs_nil, WDs_nil, WV_some, WA_some, WE_some, WDV_zero, WDE_none, putD_some, putD_none, WOs_g, WG_tt, WG_ff, WG_tf, WG_ft, WG_un, WOs_mov, WOs_bin, WOs_un, WOs_pick, WOs_toInt, WOs_len, WOs_load, WOs_iaddr, WOs_indexS, WOs_extr, WOs_field, WOs_toStr, WOs_call, WOs_store, WOs_append, WOs_slice, WOs_mx, WOs_mn, WOs_build, WOs_bslice, WOs_mkslice, WOs_alloc, WOs_lenA, WDs_mov, WDs_bin, WDs_call, evalQ_mov, evalQ_bin, evalQ_un, evalQ_pick, evalQ_toInt, evalQ_len, evalQ_load, evalQ_iaddr, evalQ_indexS, evalQ_extr, evalQ_field, evalQ_mx, evalQ_mn, evalQ_lenA, evalE_fn, evalE_append, evs_cons, evs_nil, ev_tmp, ev_lit, nth_zero, nth_succ, put_zero, put_succ, pickV_tt, pickV_ff, extrV_0, extrV_1, extrV_2, eql_int, neq_int, decide_true, decide_false, hbld, evalE_store, st0, ne_eq, not_false_eq_true, Ret_ret]
    exact result_cell2 ldsS
noncomputable def redS : List AV → Option AV
  | [.agg [.int .i64 A, .int .i64 B, .int .i64 C]] => some (redV A B C)
  | _ => none
noncomputable def K7 : Oracle := ext K6 25 redS
theorem redV_plain (A B C : Int) : AV.plain (redV A B C) = true := by
  unfold redV
  split
  · split <;> rfl
  · rfl
theorem K7_ok : IOK Go.Proofs.Try.prog K7 := IOK.extL mixed tabOK otabOK K6_ok (g := 25) (fn := af25) rfl fun args av h => by
  unfold redS at h
  split at h
  · rename_i A B C; cases h; exact ⟨rfl, redV_plain A B C, red_run A B C⟩
  · cases h
end Go.AM
