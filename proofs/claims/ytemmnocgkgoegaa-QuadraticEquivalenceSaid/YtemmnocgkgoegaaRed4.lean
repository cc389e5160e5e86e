/- The program's step of the reduction: what the code computes. No condition. -/
import Derived.Test.YtemmnocgkgoegaaRed3
set_option maxRecDepth 100000
set_option linter.unusedSimpArgs false
namespace Go.AM
open Go
theorem build3 {tm : List AV} {h : AHeap} {x y w : AOpd} {z0 z1 z2 : AV} {a b c : Int} (hx : ev tm x = .int .i64 a) (hy : ev tm y = .int .i64 b) (hw : ev tm w = .int .i64 c) : evalQ (.build [z0, z1, z2] [(0, (1, x)), (1, (1, y)), (2, (1, w))]) tm h = some (fV a b c) := by
  simp only [evalQ, fills, hx, hy, hw]
  rfl
theorem k_bound {A k X : Int} (hA : 1 ≤ A) (h1 : -X ≤ 2 * A * k) (h2 : 2 * A * k ≤ X) : -X ≤ k ∧ k ≤ X := by
  have e : 2 * A * k = 2 * (A * k) := Int.mul_assoc 2 A k
  constructor
  · rcases Int.lt_or_le k 0 with g | g
    · have : A * k ≤ 1 * k := Int.mul_le_mul_of_nonpos_right hA (by omega)
      omega
    · omega
  · rcases Int.lt_or_le 0 k with g | g
    · have : 1 * k ≤ A * k := Int.mul_le_mul_of_nonneg_right hA (by omega)
      omega
    · omega
section
variable {CC : CallT} {K : List Fr} {Q : AX → St → Prop} {h : AHeap} {A B C : Int}
noncomputable def st1B : ACode := match of59.body with | .seq _ (.seq _ (.seq (.block _ (.loop b)) _)) => b | c => c
noncomputable def st2B : ACode := match of59.body with | .seq _ (.seq _ (.seq _ (.seq (.block _ (.loop b)) _))) => b | c => c
noncomputable def stR : ACode := match of59.body with | .seq _ (.seq _ (.seq _ (.seq _ r))) => r | c => c
theorem st1_loop (g0 : h.get 0 = some (.cells (fC A B C) true)) (hA : 1 ≤ A) (hA2 : A ≤ 100000) (b1 : -100000 ≤ B) (b2 : B ≤ 100000) : ∀ (f : Nat) (k : Int) (y2 y3 y4 y5 y6 : AV), -A < B + 2 * A * k → B + 2 * A * k ≤ 100000 → B + 2 * A * k - A ≤ 2 * (f : Int) →
    (∀ z2 z3 : AV, WX CC (.exit 0) K ⟨[.ptr 0 0, .int .i64 (nk A B), z2, z3, y4, y5, y6], h⟩ Q) →
    WK CC (.loop st1B) K ⟨[.ptr 0 0, .int .i64 k, y2, y3, y4, y5, y6], h⟩ Q := by
  intro f
  induction f with
  | zero =>
    intro k y2 y3 y4 y5 y6 l1 l2 l3 hQ
    have hk := k_bound (k := k) (X := 300000) hA (by omega) (by omega)
    refine WK_loop' (by dsimp only [st1B, of59]) ?_
    have e1 : ¬ A < B + 2 * A * k := by omega
    simp (disch := omega) only [WK_skip, WK_seq, WX_seq, WX_seq_exit, WX_seq_ret, WK_block, WX_block, WX_block_ret, WX_block_eq, WK_exit, WK_ret, WK_scope, WK_cond, WK_ops, WK_draw, WX_loop, WX_loop_exit, WX_loop_ret, WX_nil, WB_true, WB_false, WOs_nil, WDs_nil, WV_some, WA_some, WE_some, WDV_zero, WDE_none, putD_some, putD_none, WOs_g, WG_tt, WG_ff, WG_tf, WG_ft, WG_un, WOs_mov, WOs_bin, WOs_un, WOs_pick, WOs_toInt, WOs_len, WOs_load, WOs_iaddr, WOs_indexS, WOs_extr, WOs_field, WOs_toStr, WOs_call, WOs_store, WOs_append, WOs_slice, WOs_mx, WOs_mn, WOs_build, WOs_bslice, WOs_mkslice, WOs_alloc, WOs_lenA, WDs_mov, WDs_bin, WDs_call, evalQ_mov, evalQ_bin, evalQ_un, evalQ_pick, evalQ_toInt, evalQ_len, evalQ_load, evalQ_iaddr, evalQ_indexS, evalQ_extr, evalQ_field, evalQ_mx, evalQ_mn, evalQ_lenA, evalE_fn, evalE_append, evs_cons, evs_nil, ev_tmp, ev_lit, nth_zero, nth_succ, put_zero, put_succ, pickV_tt, pickV_ff, extrV_0, extrV_1, extrV_2, WOs_faddr, evalQ_faddr, faddrV_0, faddrV_1, ld0 g0, ld1 g0, mul_i64, add_i64, gtr_int, e1, decide_false]
    rw [nk_unique hA l1 (by omega)]
    exact hQ _ _
  | succ f ih =>
    intro k y2 y3 y4 y5 y6 l1 l2 l3 hQ
    have hk := k_bound (k := k) (X := 300000) hA (by omega) (by omega)
    refine WK_loop' (by dsimp only [st1B, of59]) ?_
    by_cases e1 : A < B + 2 * A * k
    · have q0 : 0 ≤ (B + 2 * A * k - A) / (2 * A) := Int.ediv_nonneg (by omega) (by omega)
      have q1 : (B + 2 * A * k - A) / (2 * A) ≤ B + 2 * A * k - A := Int.ediv_le_self _ (by omega)
      have q2 : 2 * A * ((B + 2 * A * k - A) / (2 * A)) ≤ B + 2 * A * k - A := Int.mul_ediv_self_le (by omega)
      generalize hq : (B + 2 * A * k - A) / (2 * A) = q at q0 q1 q2
      have hm : 1 ≤ (if q > 1 then q else 1) := by split <;> omega
      have hm2 : (if q > 1 then q else 1) ≤ 200000 := by split <;> omega
      have hm3 : -A < B + 2 * A * k - 2 * A * (if q > 1 then q else 1) := by split <;> omega
      have hm4 : 2 * A * 1 ≤ 2 * A * (if q > 1 then q else 1) := Int.mul_le_mul_of_nonneg_left hm (by omega)
      simp (disch := omega) only [WK_skip, WK_seq, WX_seq, WX_seq_exit, WX_seq_ret, WK_block, WX_block, WX_block_ret, WX_block_eq, WK_exit, WK_ret, WK_scope, WK_cond, WK_ops, WK_draw, WX_loop, WX_loop_exit, WX_loop_ret, WX_nil, WB_true, WB_false, WOs_nil, WDs_nil, WV_some, WA_some, WE_some, WDV_zero, WDE_none, putD_some, putD_none, WOs_g, WG_tt, WG_ff, WG_tf, WG_ft, WG_un, WOs_mov, WOs_bin, WOs_un, WOs_pick, WOs_toInt, WOs_len, WOs_load, WOs_iaddr, WOs_indexS, WOs_extr, WOs_field, WOs_toStr, WOs_call, WOs_store, WOs_append, WOs_slice, WOs_mx, WOs_mn, WOs_build, WOs_bslice, WOs_mkslice, WOs_alloc, WOs_lenA, WDs_mov, WDs_bin, WDs_call, evalQ_mov, evalQ_bin, evalQ_un, evalQ_pick, evalQ_toInt, evalQ_len, evalQ_load, evalQ_iaddr, evalQ_indexS, evalQ_extr, evalQ_field, evalQ_mx, evalQ_mn, evalQ_lenA, evalE_fn, evalE_append, evs_cons, evs_nil, ev_tmp, ev_lit, nth_zero, nth_succ, put_zero, put_succ, pickV_tt, pickV_ff, extrV_0, extrV_1, extrV_2, WOs_faddr, evalQ_faddr, faddrV_0, faddrV_1, ld0 g0, ld1 g0, mul_i64, add_i64, sub_i64, gtr_int, e1, decide_true, quo_pos, hq, max_int]
      have e2 := Int.mul_sub (2 * A) k (if q > 1 then q else 1)
      exact ih (k - (if q > 1 then q else 1)) _ _ _ _ _ (by omega) (by omega) (by omega) hQ
    · simp (disch := omega) only [WK_skip, WK_seq, WX_seq, WX_seq_exit, WX_seq_ret, WK_block, WX_block, WX_block_ret, WX_block_eq, WK_exit, WK_ret, WK_scope, WK_cond, WK_ops, WK_draw, WX_loop, WX_loop_exit, WX_loop_ret, WX_nil, WB_true, WB_false, WOs_nil, WDs_nil, WV_some, WA_some, WE_some, WDV_zero, WDE_none, putD_some, putD_none, WOs_g, WG_tt, WG_ff, WG_tf, WG_ft, WG_un, WOs_mov, WOs_bin, WOs_un, WOs_pick, WOs_toInt, WOs_len, WOs_load, WOs_iaddr, WOs_indexS, WOs_extr, WOs_field, WOs_toStr, WOs_call, WOs_store, WOs_append, WOs_slice, WOs_mx, WOs_mn, WOs_build, WOs_bslice, WOs_mkslice, WOs_alloc, WOs_lenA, WDs_mov, WDs_bin, WDs_call, evalQ_mov, evalQ_bin, evalQ_un, evalQ_pick, evalQ_toInt, evalQ_len, evalQ_load, evalQ_iaddr, evalQ_indexS, evalQ_extr, evalQ_field, evalQ_mx, evalQ_mn, evalQ_lenA, evalE_fn, evalE_append, evs_cons, evs_nil, ev_tmp, ev_lit, nth_zero, nth_succ, put_zero, put_succ, pickV_tt, pickV_ff, extrV_0, extrV_1, extrV_2, WOs_faddr, evalQ_faddr, faddrV_0, faddrV_1, ld0 g0, ld1 g0, mul_i64, add_i64, gtr_int, e1, decide_false]
      rw [nk_unique hA l1 (by omega)]
      exact hQ _ _
theorem st2_loop (g0 : h.get 0 = some (.cells (fC A B C) true)) (hA : 1 ≤ A) (hA2 : A ≤ 100000) (b1 : -100000 ≤ B) (b2 : B ≤ 100000) : ∀ (f : Nat) (k : Int) (y2 y3 y4 y5 y6 : AV), B + 2 * A * k ≤ A → -100000 ≤ B + 2 * A * k → -A < B + 2 * A * k + 2 * (f : Int) →
    (∀ z2 z3 : AV, WX CC (.exit 2) K ⟨[.ptr 0 0, .int .i64 (nk A B), z2, z3, y4, y5, y6], h⟩ Q) →
    WK CC (.loop st2B) K ⟨[.ptr 0 0, .int .i64 k, y2, y3, y4, y5, y6], h⟩ Q := by
  intro f
  induction f with
  | zero =>
    intro k y2 y3 y4 y5 y6 l1 l2 l3 hQ
    have hk := k_bound (k := k) (X := 300000) hA (by omega) (by omega)
    refine WK_loop' (by dsimp only [st2B, of59]) ?_
    have e1 : ¬ B + 2 * A * k ≤ -A := by omega
    simp (disch := omega) only [WK_skip, WK_seq, WX_seq, WX_seq_exit, WX_seq_ret, WK_block, WX_block, WX_block_ret, WX_block_eq, WK_exit, WK_ret, WK_scope, WK_cond, WK_ops, WK_draw, WX_loop, WX_loop_exit, WX_loop_ret, WX_nil, WB_true, WB_false, WOs_nil, WDs_nil, WV_some, WA_some, WE_some, WDV_zero, WDE_none, putD_some, putD_none, WOs_g, WG_tt, WG_ff, WG_tf, WG_ft, WG_un, WOs_mov, WOs_bin, WOs_un, WOs_pick, WOs_toInt, WOs_len, WOs_load, WOs_iaddr, WOs_indexS, WOs_extr, WOs_field, WOs_toStr, WOs_call, WOs_store, WOs_append, WOs_slice, WOs_mx, WOs_mn, WOs_build, WOs_bslice, WOs_mkslice, WOs_alloc, WOs_lenA, WDs_mov, WDs_bin, WDs_call, evalQ_mov, evalQ_bin, evalQ_un, evalQ_pick, evalQ_toInt, evalQ_len, evalQ_load, evalQ_iaddr, evalQ_indexS, evalQ_extr, evalQ_field, evalQ_mx, evalQ_mn, evalQ_lenA, evalE_fn, evalE_append, evs_cons, evs_nil, ev_tmp, ev_lit, nth_zero, nth_succ, put_zero, put_succ, pickV_tt, pickV_ff, extrV_0, extrV_1, extrV_2, WOs_faddr, evalQ_faddr, faddrV_0, faddrV_1, ld0 g0, ld1 g0, mul_i64, add_i64, neg_i64, leq_int, e1, decide_false]
    rw [nk_unique hA (by omega) l1]
    exact hQ _ _
  | succ f ih =>
    intro k y2 y3 y4 y5 y6 l1 l2 l3 hQ
    have hk := k_bound (k := k) (X := 300000) hA (by omega) (by omega)
    refine WK_loop' (by dsimp only [st2B, of59]) ?_
    by_cases e1 : B + 2 * A * k ≤ -A
    · have q0 : 0 ≤ (-A - B - 2 * A * k) / (2 * A) := Int.ediv_nonneg (by omega) (by omega)
      have q1 : (-A - B - 2 * A * k) / (2 * A) ≤ -A - B - 2 * A * k := Int.ediv_le_self _ (by omega)
      have q2 : 2 * A * ((-A - B - 2 * A * k) / (2 * A)) ≤ -A - B - 2 * A * k := Int.mul_ediv_self_le (by omega)
      generalize hq : (-A - B - 2 * A * k) / (2 * A) = q at q0 q1 q2
      have hm : 1 ≤ (if q > 1 then q else 1) := by split <;> omega
      have hm2 : (if q > 1 then q else 1) ≤ 300000 := by split <;> omega
      have hm3 : B + 2 * A * k + 2 * A * (if q > 1 then q else 1) ≤ A := by split <;> omega
      have hm4 : 2 * A * 1 ≤ 2 * A * (if q > 1 then q else 1) := Int.mul_le_mul_of_nonneg_left hm (by omega)
      simp (disch := omega) only [WK_skip, WK_seq, WX_seq, WX_seq_exit, WX_seq_ret, WK_block, WX_block, WX_block_ret, WX_block_eq, WK_exit, WK_ret, WK_scope, WK_cond, WK_ops, WK_draw, WX_loop, WX_loop_exit, WX_loop_ret, WX_nil, WB_true, WB_false, WOs_nil, WDs_nil, WV_some, WA_some, WE_some, WDV_zero, WDE_none, putD_some, putD_none, WOs_g, WG_tt, WG_ff, WG_tf, WG_ft, WG_un, WOs_mov, WOs_bin, WOs_un, WOs_pick, WOs_toInt, WOs_len, WOs_load, WOs_iaddr, WOs_indexS, WOs_extr, WOs_field, WOs_toStr, WOs_call, WOs_store, WOs_append, WOs_slice, WOs_mx, WOs_mn, WOs_build, WOs_bslice, WOs_mkslice, WOs_alloc, WOs_lenA, WDs_mov, WDs_bin, WDs_call, evalQ_mov, evalQ_bin, evalQ_un, evalQ_pick, evalQ_toInt, evalQ_len, evalQ_load, evalQ_iaddr, evalQ_indexS, evalQ_extr, evalQ_field, evalQ_mx, evalQ_mn, evalQ_lenA, evalE_fn, evalE_append, evs_cons, evs_nil, ev_tmp, ev_lit, nth_zero, nth_succ, put_zero, put_succ, pickV_tt, pickV_ff, extrV_0, extrV_1, extrV_2, WOs_faddr, evalQ_faddr, faddrV_0, faddrV_1, ld0 g0, ld1 g0, mul_i64, add_i64, sub_i64, neg_i64, leq_int, e1, decide_true, quo_pos, hq, max_int]
      have e2 := Int.mul_add (2 * A) k (if q > 1 then q else 1)
      exact ih (k + (if q > 1 then q else 1)) _ _ _ _ _ (by omega) (by omega) (by omega) hQ
    · simp (disch := omega) only [WK_skip, WK_seq, WX_seq, WX_seq_exit, WX_seq_ret, WK_block, WX_block, WX_block_ret, WX_block_eq, WK_exit, WK_ret, WK_scope, WK_cond, WK_ops, WK_draw, WX_loop, WX_loop_exit, WX_loop_ret, WX_nil, WB_true, WB_false, WOs_nil, WDs_nil, WV_some, WA_some, WE_some, WDV_zero, WDE_none, putD_some, putD_none, WOs_g, WG_tt, WG_ff, WG_tf, WG_ft, WG_un, WOs_mov, WOs_bin, WOs_un, WOs_pick, WOs_toInt, WOs_len, WOs_load, WOs_iaddr, WOs_indexS, WOs_extr, WOs_field, WOs_toStr, WOs_call, WOs_store, WOs_append, WOs_slice, WOs_mx, WOs_mn, WOs_build, WOs_bslice, WOs_mkslice, WOs_alloc, WOs_lenA, WDs_mov, WDs_bin, WDs_call, evalQ_mov, evalQ_bin, evalQ_un, evalQ_pick, evalQ_toInt, evalQ_len, evalQ_load, evalQ_iaddr, evalQ_indexS, evalQ_extr, evalQ_field, evalQ_mx, evalQ_mn, evalQ_lenA, evalE_fn, evalE_append, evs_cons, evs_nil, ev_tmp, ev_lit, nth_zero, nth_succ, put_zero, put_succ, pickV_tt, pickV_ff, extrV_0, extrV_1, extrV_2, WOs_faddr, evalQ_faddr, faddrV_0, faddrV_1, ld0 g0, ld1 g0, mul_i64, add_i64, neg_i64, leq_int, e1, decide_false]
      rw [nk_unique hA (by omega) l1]
      exact hQ _ _
end
noncomputable def stpS : List AV → Option AV
  | [.agg [.int .i64 A, .int .i64 B, .int .i64 C]] => open Classical in if VF A B C then some (fVt (stp (A, B, C))) else none
  | _ => none
theorem stp_run {A B C : Int} (hv : VF A B C) : ∃ h', lim otab.get K5 (.fn 59) [fV A B C] .empty = some (fVt (stp (A, B, C)), h') := by
  refine run_of (fn := of59) rfl rfl ?_
  show WK _ _ [] ⟨[fV A B C, aundef, aundef, aundef, aundef, aundef, aundef], .empty⟩ _
  dsimp only [of59]
  obtain ⟨H, hH⟩ : ∃ H, H = (AHeap.empty.push (.cells (fC A B C) true)).push (.cells [.int .i64 0, .int .i64 0, .int .i64 0] true) := ⟨_, rfl⟩
  have g0 : H.get 0 = some (.cells (fC A B C) true) := by
    rw [hH, AHeap.get_push_lt _ _ (by simp)]; exact AHeap.get_push_same AHeap.empty _
  have g1 : H.get 1 = some (.cells [.int .i64 0, .int .i64 0, .int .i64 0] true) := by
    rw [hH]; exact AHeap.get_push_same (AHeap.empty.push (.cells (fC A B C) true)) _
  have hnx : H.next = 2 := by rw [hH]; rfl
  simp only [WK_skip, WK_seq, WX_seq, WX_seq_exit, WX_seq_ret, WK_block, WX_block, WX_block_ret, WX_block_eq, WK_exit, WK_ret, WK_scope, WK_cond, WK_ops, WK_draw, WX_loop, WX_loop_exit, WX_loop_ret, WX_nil, WB_true, WB_false, WOs_nil, WDs_nil, WV_some, WA_some, WE_some, WDV_zero, WDE_none, putD_some, putD_none, WOs_g, WG_tt, WG_ff, WG_tf, WG_ft, WG_un, WOs_mov, WOs_bin, WOs_un, WOs_pick, WOs_toInt, WOs_len, WOs_load, WOs_iaddr, WOs_indexS, WOs_extr, WOs_field, WOs_toStr, WOs_call, WOs_store, WOs_append, WOs_slice, WOs_mx, WOs_mn, WOs_build, WOs_bslice, WOs_mkslice, WOs_alloc, WOs_lenA, WDs_mov, WDs_bin, WDs_call, evalQ_mov, evalQ_bin, evalQ_un, evalQ_pick, evalQ_toInt, evalQ_len, evalQ_load, evalQ_iaddr, evalQ_indexS, evalQ_extr, evalQ_field, evalQ_mx, evalQ_mn, evalQ_lenA, evalE_fn, evalE_append, evs_cons, evs_nil, ev_tmp, ev_lit, nth_zero, nth_succ, put_zero, put_succ, pickV_tt, pickV_ff, extrV_0, extrV_1, extrV_2, WOs_box, evalA_box, cells_agg, evalA_alloc, AHeap.next_push, Nat.zero_add]
  rw [show ((AHeap.empty.push (.cells (fC A B C) true)).push (.cells [.int .i64 0, .int .i64 0, .int .i64 0] true)) = H from hH.symm]
  obtain ⟨q1, q2, q3, q4, q5, q6, q7, q8, q9, q10, q11⟩ := hv.bds
  have a1 := hv.a1
  have a2 := hv.a2
  have b1 := hv.b1
  have b2 := hv.b2
  have hc := hv.c
  have hc' := hv.norm.c
  have hnr := nB_range (B := B) a1
  have hnB : B + 2 * A * nk A B = nB A B := rfl
  have hnC : A * nk A B * nk A B + B * nk A B + C = nC A B C := rfl
  have hnC0 : nC A B C = A * nk A B * nk A B + B * nk A B + C := rfl
  have hnB0 : nB A B = B + 2 * A * nk A B := rfl
  -- behind the loops
  have g0' : (H.push (.cells [.int .i64 0, .int .i64 0, .int .i64 0] true)).get 2 = some (.cells [.int .i64 0, .int .i64 0, .int .i64 0] true) := by
    rw [← hnx]; exact AHeap.get_push_same H _
  have g1' : ∀ o : AObj, ((H.push (.cells [.int .i64 0, .int .i64 0, .int .i64 0] true)).set 2 o).get 1 = some (.cells [.int .i64 0, .int .i64 0, .int .i64 0] true) := by
    intro o
    rw [AHeap.get_set_ne _ _ (by decide), AHeap.get_push_lt _ _ (by omega)]; exact g1
  have g1'' : ∀ o o' : AObj, (((H.push (.cells [.int .i64 0, .int .i64 0, .int .i64 0] true)).set 2 o).set 2 o').get 1 = some (.cells [.int .i64 0, .int .i64 0, .int .i64 0] true) := by
    intro o o'
    rw [AHeap.get_set_ne _ _ (by decide)]; exact g1' o
  have fin : ∀ (z2 z3 y5 y6 : AV), WX (lim otab.get K5) (.exit 2) [.block 2, .seq stR] ⟨[.ptr 0 0, .int .i64 (nk A B), z2, z3, .ptr 1 0, y5, y6], H⟩ (Ret [.cell 4 (some 3)] (fVt (stp (A, B, C)))) := by
    intro z2 z3 y5 y6
    simp only [WX_block_eq, WX_seq]
    dsimp only [stR, of59]
    simp (disch := omega) only [WK_skip, WK_seq, WX_seq, WX_seq_exit, WX_seq_ret, WK_block, WX_block, WX_block_ret, WX_block_eq, WK_exit, WK_ret, WK_scope, WK_cond, WK_ops, WK_draw, WX_loop, WX_loop_exit, WX_loop_ret, WX_nil, WB_true, WB_false, WOs_nil, WDs_nil, WV_some, WA_some, WE_some, WDV_zero, WDE_none, putD_some, putD_none, WOs_g, WG_tt, WG_ff, WG_tf, WG_ft, WG_un, WOs_mov, WOs_bin, WOs_un, WOs_pick, WOs_toInt, WOs_len, WOs_load, WOs_iaddr, WOs_indexS, WOs_extr, WOs_field, WOs_toStr, WOs_call, WOs_store, WOs_append, WOs_slice, WOs_mx, WOs_mn, WOs_build, WOs_bslice, WOs_mkslice, WOs_alloc, WOs_lenA, WDs_mov, WDs_bin, WDs_call, evalQ_mov, evalQ_bin, evalQ_un, evalQ_pick, evalQ_toInt, evalQ_len, evalQ_load, evalQ_iaddr, evalQ_indexS, evalQ_extr, evalQ_field, evalQ_mx, evalQ_mn, evalQ_lenA, evalE_fn, evalE_append, evs_cons, evs_nil, ev_tmp, ev_lit, nth_zero, nth_succ, put_zero, put_succ, pickV_tt, pickV_ff, extrV_0, extrV_1, extrV_2, WOs_faddr, evalQ_faddr, faddrV_0, faddrV_1, faddrV_2, ld0 g0, ld1 g0, ld2 g0, mul_i64, add_i64, hnB, hnC]
    rw [build3 (a := A) (b := nB A B) (c := nC A B C) rfl rfl rfl]
    simp only [WK_skip, WK_seq, WX_seq, WX_seq_exit, WX_seq_ret, WK_block, WX_block, WX_block_ret, WX_block_eq, WK_exit, WK_ret, WK_scope, WK_cond, WK_ops, WK_draw, WX_loop, WX_loop_exit, WX_loop_ret, WX_nil, WB_true, WB_false, WOs_nil, WDs_nil, WV_some, WA_some, WE_some, WDV_zero, WDE_none, putD_some, putD_none, WOs_g, WG_tt, WG_ff, WG_tf, WG_ft, WG_un, WOs_mov, WOs_bin, WOs_un, WOs_pick, WOs_toInt, WOs_len, WOs_load, WOs_iaddr, WOs_indexS, WOs_extr, WOs_field, WOs_toStr, WOs_call, WOs_store, WOs_append, WOs_slice, WOs_mx, WOs_mn, WOs_build, WOs_bslice, WOs_mkslice, WOs_alloc, WOs_lenA, WDs_mov, WDs_bin, WDs_call, evalQ_mov, evalQ_bin, evalQ_un, evalQ_pick, evalQ_toInt, evalQ_len, evalQ_load, evalQ_iaddr, evalQ_indexS, evalQ_extr, evalQ_field, evalQ_mx, evalQ_mn, evalQ_lenA, evalE_fn, evalE_append, evs_cons, evs_nil, ev_tmp, ev_lit, nth_zero, nth_succ, put_zero, put_succ, pickV_tt, pickV_ff, extrV_0, extrV_1, extrV_2, evalA_alloc, hnx, evalE_store, stV3 (x := .int .i64 A) (y := .int .i64 (nB A B)) (z := .int .i64 (nC A B C)) g0' rfl rfl rfl]
    by_cases s1 : nC A B C < A
    · have es : stp (A, B, C) = (nC A B C, -nB A B, A) := by unfold stp; dsimp only; rw [if_pos (.inl s1)]
      simp (disch := omega) only [WK_skip, WK_seq, WX_seq, WX_seq_exit, WX_seq_ret, WK_block, WX_block, WX_block_ret, WX_block_eq, WK_exit, WK_ret, WK_scope, WK_cond, WK_ops, WK_draw, WX_loop, WX_loop_exit, WX_loop_ret, WX_nil, WB_true, WB_false, WOs_nil, WDs_nil, WV_some, WA_some, WE_some, WDV_zero, WDE_none, putD_some, putD_none, WOs_g, WG_tt, WG_ff, WG_tf, WG_ft, WG_un, WOs_mov, WOs_bin, WOs_un, WOs_pick, WOs_toInt, WOs_len, WOs_load, WOs_iaddr, WOs_indexS, WOs_extr, WOs_field, WOs_toStr, WOs_call, WOs_store, WOs_append, WOs_slice, WOs_mx, WOs_mn, WOs_build, WOs_bslice, WOs_mkslice, WOs_alloc, WOs_lenA, WDs_mov, WDs_bin, WDs_call, evalQ_mov, evalQ_bin, evalQ_un, evalQ_pick, evalQ_toInt, evalQ_len, evalQ_load, evalQ_iaddr, evalQ_indexS, evalQ_extr, evalQ_field, evalQ_mx, evalQ_mn, evalQ_lenA, evalE_fn, evalE_append, evs_cons, evs_nil, ev_tmp, ev_lit, nth_zero, nth_succ, put_zero, put_succ, pickV_tt, pickV_ff, extrV_0, extrV_1, extrV_2, WOs_faddr, evalQ_faddr, faddrV_0, faddrV_1, faddrV_2, lds0, lds1, lds2, gtr_int, s1, decide_true, neg_i64]
      rw [build3 (a := nC A B C) (b := -nB A B) (c := A) rfl rfl rfl]
      simp only [WK_skip, WK_seq, WX_seq, WX_seq_exit, WX_seq_ret, WK_block, WX_block, WX_block_ret, WX_block_eq, WK_exit, WK_ret, WK_scope, WK_cond, WK_ops, WK_draw, WX_loop, WX_loop_exit, WX_loop_ret, WX_nil, WB_true, WB_false, WOs_nil, WDs_nil, WV_some, WA_some, WE_some, WDV_zero, WDE_none, putD_some, putD_none, WOs_g, WG_tt, WG_ff, WG_tf, WG_ft, WG_un, WOs_mov, WOs_bin, WOs_un, WOs_pick, WOs_toInt, WOs_len, WOs_load, WOs_iaddr, WOs_indexS, WOs_extr, WOs_field, WOs_toStr, WOs_call, WOs_store, WOs_append, WOs_slice, WOs_mx, WOs_mn, WOs_build, WOs_bslice, WOs_mkslice, WOs_alloc, WOs_lenA, WDs_mov, WDs_bin, WDs_call, evalQ_mov, evalQ_bin, evalQ_un, evalQ_pick, evalQ_toInt, evalQ_len, evalQ_load, evalQ_iaddr, evalQ_indexS, evalQ_extr, evalQ_field, evalQ_mx, evalQ_mn, evalQ_lenA, evalE_fn, evalE_append, evs_cons, evs_nil, ev_tmp, ev_lit, nth_zero, nth_succ, put_zero, put_succ, pickV_tt, pickV_ff, extrV_0, extrV_1, extrV_2, evalE_store, stV3 (x := .int .i64 (nC A B C)) (y := .int .i64 (-nB A B)) (z := .int .i64 A) (AHeap.get_set_same _ _ _) rfl rfl rfl, ldsS, stV3 (x := .int .i64 (nC A B C)) (y := .int .i64 (-nB A B)) (z := .int .i64 A) (g1'' _ _) rfl rfl rfl, Ret_ret]
      rw [es]; exact result_cell ldsS
    · by_cases s2 : A = nC A B C
      · have s2' : (A = nC A B C) = True := eq_true s2
        by_cases s3 : nB A B < 0
        · have es : stp (A, B, C) = (nC A B C, -nB A B, A) := by unfold stp; dsimp only; rw [if_pos (.inr ⟨s2, s3⟩)]
          simp (disch := omega) only [WK_skip, WK_seq, WX_seq, WX_seq_exit, WX_seq_ret, WK_block, WX_block, WX_block_ret, WX_block_eq, WK_exit, WK_ret, WK_scope, WK_cond, WK_ops, WK_draw, WX_loop, WX_loop_exit, WX_loop_ret, WX_nil, WB_true, WB_false, WOs_nil, WDs_nil, WV_some, WA_some, WE_some, WDV_zero, WDE_none, putD_some, putD_none, WOs_g, WG_tt, WG_ff, WG_tf, WG_ft, WG_un, WOs_mov, WOs_bin, WOs_un, WOs_pick, WOs_toInt, WOs_len, WOs_load, WOs_iaddr, WOs_indexS, WOs_extr, WOs_field, WOs_toStr, WOs_call, WOs_store, WOs_append, WOs_slice, WOs_mx, WOs_mn, WOs_build, WOs_bslice, WOs_mkslice, WOs_alloc, WOs_lenA, WDs_mov, WDs_bin, WDs_call, evalQ_mov, evalQ_bin, evalQ_un, evalQ_pick, evalQ_toInt, evalQ_len, evalQ_load, evalQ_iaddr, evalQ_indexS, evalQ_extr, evalQ_field, evalQ_mx, evalQ_mn, evalQ_lenA, evalE_fn, evalE_append, evs_cons, evs_nil, ev_tmp, ev_lit, nth_zero, nth_succ, put_zero, put_succ, pickV_tt, pickV_ff, extrV_0, extrV_1, extrV_2, WOs_faddr, evalQ_faddr, faddrV_0, faddrV_1, faddrV_2, lds0, lds1, lds2, gtr_int, eql_int, lss_int, s1, s2', s3, decide_true, decide_false, neg_i64]
          rw [build3 (a := nC A B C) (b := -nB A B) (c := A) rfl rfl rfl]
          simp only [WK_skip, WK_seq, WX_seq, WX_seq_exit, WX_seq_ret, WK_block, WX_block, WX_block_ret, WX_block_eq, WK_exit, WK_ret, WK_scope, WK_cond, WK_ops, WK_draw, WX_loop, WX_loop_exit, WX_loop_ret, WX_nil, WB_true, WB_false, WOs_nil, WDs_nil, WV_some, WA_some, WE_some, WDV_zero, WDE_none, putD_some, putD_none, WOs_g, WG_tt, WG_ff, WG_tf, WG_ft, WG_un, WOs_mov, WOs_bin, WOs_un, WOs_pick, WOs_toInt, WOs_len, WOs_load, WOs_iaddr, WOs_indexS, WOs_extr, WOs_field, WOs_toStr, WOs_call, WOs_store, WOs_append, WOs_slice, WOs_mx, WOs_mn, WOs_build, WOs_bslice, WOs_mkslice, WOs_alloc, WOs_lenA, WDs_mov, WDs_bin, WDs_call, evalQ_mov, evalQ_bin, evalQ_un, evalQ_pick, evalQ_toInt, evalQ_len, evalQ_load, evalQ_iaddr, evalQ_indexS, evalQ_extr, evalQ_field, evalQ_mx, evalQ_mn, evalQ_lenA, evalE_fn, evalE_append, evs_cons, evs_nil, ev_tmp, ev_lit, nth_zero, nth_succ, put_zero, put_succ, pickV_tt, pickV_ff, extrV_0, extrV_1, extrV_2, evalE_store, stV3 (x := .int .i64 (nC A B C)) (y := .int .i64 (-nB A B)) (z := .int .i64 A) (AHeap.get_set_same _ _ _) rfl rfl rfl, ldsS, stV3 (x := .int .i64 (nC A B C)) (y := .int .i64 (-nB A B)) (z := .int .i64 A) (g1'' _ _) rfl rfl rfl, Ret_ret]
          rw [es]; exact result_cell ldsS
        · have es : stp (A, B, C) = (A, nB A B, nC A B C) := by unfold stp; dsimp only; rw [if_neg (by omega)]
          simp only [WK_skip, WK_seq, WX_seq, WX_seq_exit, WX_seq_ret, WK_block, WX_block, WX_block_ret, WX_block_eq, WK_exit, WK_ret, WK_scope, WK_cond, WK_ops, WK_draw, WX_loop, WX_loop_exit, WX_loop_ret, WX_nil, WB_true, WB_false, WOs_nil, WDs_nil, WV_some, WA_some, WE_some, WDV_zero, WDE_none, putD_some, putD_none, WOs_g, WG_tt, WG_ff, WG_tf, WG_ft, WG_un, WOs_mov, WOs_bin, WOs_un, WOs_pick, WOs_toInt, WOs_len, WOs_load, WOs_iaddr, WOs_indexS, WOs_extr, WOs_field, WOs_toStr, WOs_call, WOs_store, WOs_append, WOs_slice, WOs_mx, WOs_mn, WOs_build, WOs_bslice, WOs_mkslice, WOs_alloc, WOs_lenA, WDs_mov, WDs_bin, WDs_call, evalQ_mov, evalQ_bin, evalQ_un, evalQ_pick, evalQ_toInt, evalQ_len, evalQ_load, evalQ_iaddr, evalQ_indexS, evalQ_extr, evalQ_field, evalQ_mx, evalQ_mn, evalQ_lenA, evalE_fn, evalE_append, evs_cons, evs_nil, ev_tmp, ev_lit, nth_zero, nth_succ, put_zero, put_succ, pickV_tt, pickV_ff, extrV_0, extrV_1, extrV_2, WOs_faddr, evalQ_faddr, faddrV_0, faddrV_1, faddrV_2, lds0, lds1, lds2, gtr_int, eql_int, lss_int, s1, s2', s3, decide_true, decide_false, ldsS, evalE_store, stV3 (x := .int .i64 A) (y := .int .i64 (nB A B)) (z := .int .i64 (nC A B C)) (g1' _) rfl rfl rfl, Ret_ret]
          rw [es]; exact result_cell ldsS
      · have s2' : (A = nC A B C) = False := eq_false s2
        have es : stp (A, B, C) = (A, nB A B, nC A B C) := by unfold stp; dsimp only; rw [if_neg (by omega)]
        simp only [WK_skip, WK_seq, WX_seq, WX_seq_exit, WX_seq_ret, WK_block, WX_block, WX_block_ret, WX_block_eq, WK_exit, WK_ret, WK_scope, WK_cond, WK_ops, WK_draw, WX_loop, WX_loop_exit, WX_loop_ret, WX_nil, WB_true, WB_false, WOs_nil, WDs_nil, WV_some, WA_some, WE_some, WDV_zero, WDE_none, putD_some, putD_none, WOs_g, WG_tt, WG_ff, WG_tf, WG_ft, WG_un, WOs_mov, WOs_bin, WOs_un, WOs_pick, WOs_toInt, WOs_len, WOs_load, WOs_iaddr, WOs_indexS, WOs_extr, WOs_field, WOs_toStr, WOs_call, WOs_store, WOs_append, WOs_slice, WOs_mx, WOs_mn, WOs_build, WOs_bslice, WOs_mkslice, WOs_alloc, WOs_lenA, WDs_mov, WDs_bin, WDs_call, evalQ_mov, evalQ_bin, evalQ_un, evalQ_pick, evalQ_toInt, evalQ_len, evalQ_load, evalQ_iaddr, evalQ_indexS, evalQ_extr, evalQ_field, evalQ_mx, evalQ_mn, evalQ_lenA, evalE_fn, evalE_append, evs_cons, evs_nil, ev_tmp, ev_lit, nth_zero, nth_succ, put_zero, put_succ, pickV_tt, pickV_ff, extrV_0, extrV_1, extrV_2, WOs_faddr, evalQ_faddr, faddrV_0, faddrV_1, faddrV_2, lds0, lds1, lds2, gtr_int, eql_int, s1, s2', decide_false, ldsS, evalE_store, stV3 (x := .int .i64 A) (y := .int .i64 (nB A B)) (z := .int .i64 (nC A B C)) (g1' _) rfl rfl rfl, Ret_ret]
        rw [es]; exact result_cell ldsS
  by_cases hB : A < B
  · refine st1_loop g0 a1 a2 b1 b2 100000 0 _ _ _ _ _ (by omega) (by omega) (by omega) fun z2 z3 => ?_
    simp only [WK_skip, WK_seq, WX_seq, WX_seq_exit, WX_seq_ret, WK_block, WX_block, WX_block_ret, WX_block_eq, WK_exit, WK_ret, WK_scope, WK_cond, WK_ops, WK_draw, WX_loop, WX_loop_exit, WX_loop_ret, WX_nil, WB_true, WB_false, WOs_nil, WDs_nil, WV_some, WA_some, WE_some, WDV_zero, WDE_none, putD_some, putD_none, WOs_g, WG_tt, WG_ff, WG_tf, WG_ft, WG_un, WOs_mov, WOs_bin, WOs_un, WOs_pick, WOs_toInt, WOs_len, WOs_load, WOs_iaddr, WOs_indexS, WOs_extr, WOs_field, WOs_toStr, WOs_call, WOs_store, WOs_append, WOs_slice, WOs_mx, WOs_mn, WOs_build, WOs_bslice, WOs_mkslice, WOs_alloc, WOs_lenA, WDs_mov, WDs_bin, WDs_call, evalQ_mov, evalQ_bin, evalQ_un, evalQ_pick, evalQ_toInt, evalQ_len, evalQ_load, evalQ_iaddr, evalQ_indexS, evalQ_extr, evalQ_field, evalQ_mx, evalQ_mn, evalQ_lenA, evalE_fn, evalE_append, evs_cons, evs_nil, ev_tmp, ev_lit, nth_zero, nth_succ, put_zero, put_succ, pickV_tt, pickV_ff, extrV_0, extrV_1, extrV_2]
    refine st2_loop g0 a1 a2 b1 b2 1 (nk A B) _ _ _ _ _ (by omega) (by omega) (by omega) fun z2 z3 => ?_
    exact fin _ _ _ _
  · refine WK_loop' (b := st1B) (by dsimp only [st1B, of59]) ?_
    have e1 : ¬ A < B + 2 * A * 0 := by omega
    simp (disch := omega) only [WK_skip, WK_seq, WX_seq, WX_seq_exit, WX_seq_ret, WK_block, WX_block, WX_block_ret, WX_block_eq, WK_exit, WK_ret, WK_scope, WK_cond, WK_ops, WK_draw, WX_loop, WX_loop_exit, WX_loop_ret, WX_nil, WB_true, WB_false, WOs_nil, WDs_nil, WV_some, WA_some, WE_some, WDV_zero, WDE_none, putD_some, putD_none, WOs_g, WG_tt, WG_ff, WG_tf, WG_ft, WG_un, WOs_mov, WOs_bin, WOs_un, WOs_pick, WOs_toInt, WOs_len, WOs_load, WOs_iaddr, WOs_indexS, WOs_extr, WOs_field, WOs_toStr, WOs_call, WOs_store, WOs_append, WOs_slice, WOs_mx, WOs_mn, WOs_build, WOs_bslice, WOs_mkslice, WOs_alloc, WOs_lenA, WDs_mov, WDs_bin, WDs_call, evalQ_mov, evalQ_bin, evalQ_un, evalQ_pick, evalQ_toInt, evalQ_len, evalQ_load, evalQ_iaddr, evalQ_indexS, evalQ_extr, evalQ_field, evalQ_mx, evalQ_mn, evalQ_lenA, evalE_fn, evalE_append, evs_cons, evs_nil, ev_tmp, ev_lit, nth_zero, nth_succ, put_zero, put_succ, pickV_tt, pickV_ff, extrV_0, extrV_1, extrV_2, WOs_faddr, evalQ_faddr, faddrV_0, faddrV_1, ld0 g0, ld1 g0, mul_i64, add_i64, gtr_int, e1, decide_false]
    refine st2_loop g0 a1 a2 b1 b2 100000 0 _ _ _ _ _ (by omega) (by omega) (by omega) fun z2 z3 => ?_
    exact fin _ _ _ _
noncomputable def K6 : Oracle := ext K5 59 stpS
theorem K6_ok : IOK Go.Proofs.Try.prog K6 := IOK.extL mixed tabOK otabOK K5_ok (g := 59) (fn := af59) rfl fun args av h => by
  unfold stpS at h
  split at h
  · split at h
    · rename_i hn; cases h; exact ⟨rfl, rfl, stp_run hn⟩
    · cases h
  · cases h
end Go.AM
