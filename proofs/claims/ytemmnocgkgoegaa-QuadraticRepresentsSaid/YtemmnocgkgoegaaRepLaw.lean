/- QuadraticRepresents: the law's code answers true. No condition. -/
import Derived.Test.YtemmnocgkgoegaaRep2
set_option maxRecDepth 100000
set_option linter.unusedSimpArgs false
namespace Go.AM
open Go
section
variable {h : AHeap}
theorem c_aw19 : lim otab.get I19 (.fn 17) [] h = some (.bool true, h) := lim_oracle rfl
theorem c_rep19 {d p : Int} : lim otab.get I19 (.fn 28) [.int .i64 d, .int .i64 p] h = some (repV d p, h) := lim_oracle rfl
theorem c_large19 {n : Int} : lim otab.get I19 (.fn 16) [.int .i64 n] h = some (.int .i64 (lg n), h) := lim_oracle rfl
theorem c_rfund19 {n : Int} : lim otab.get I19 (.fn 15) [.int .i64 n] h = some (.bool (decide (lg n = 0 ∧ fundP n)), h) := lim_oracle rfl
theorem c_rpr19 {n : Int} (h1 : 0 ≤ n) (h2 : n ≤ 100000) : lim otab.get I19 (.fn 29) [.int .i64 n] h = some (.bool (isPB n.toNat), h) :=
  lim_oracle (or_hit (spec := rprS) (if_pos ⟨h1, h2⟩))
theorem c_rrep19 {d p : Int} (h1 : -100000 ≤ d) (h2 : d < 0) (h3 : 1 ≤ p) (h4 : p ≤ 100000) : lim otab.get I19 (.fn 30) [.int .i64 d, .int .i64 p] h = some (match repF (-d).toNat p.toNat 1000 0 with
    | some (a, b) => .tup [.int .i64 (a : Int), .int .i64 (b : Int), .bool true]
    | none => .tup [.int .i64 0, .int .i64 0, .bool false], h) :=
  lim_oracle (or_hit (spec := rrepS) (if_pos ⟨h1, h2, h3, h4⟩))
end
theorem mx00 : maxs (.int .i64 0) [.int .i64 0] = some (.int .i64 0) := rfl
theorem mx40 : maxs (.int .i64 4) [.int .i64 0] = some (.int .i64 4) := rfl
theorem mx04 : maxs (.int .i64 0) [.int .i64 4] = some (.int .i64 4) := rfl
theorem mx44 : maxs (.int .i64 4) [.int .i64 4] = some (.int .i64 4) := rfl
theorem bd_of {d p : Int} (h1 : lg d = 0) (h2 : lg p = 0) : bd [d, p] = 0 := by simp [bd, h1, h2]
theorem bd_of4 {d p : Int} (h : lg d = 4 ∨ lg p = 4) : bd [d, p] = 4 := by
  simp only [bd]
  rcases h with h | h
  · simp [h]
  · rcases lg_cases d with ⟨h1, _⟩ | ⟨h1, _⟩ <;> simp [h1, h]
theorem repLaw (d p : Int) : ∃ h', lim otab.get I19 (.fn 7) [.int .i64 d, .int .i64 p] .empty = some (.bool true, h') := by
  refine run_of (fn := of7) rfl rfl ?_
  show WK _ _ [] ⟨[.int .i64 d, .int .i64 p, aundef, aundef, aundef, aundef, aundef, aundef, aundef], .empty⟩ _
  dsimp only [of7]
  have f40 : ((4 : Int) = 0) = False := by simp
  have f30 : ((3 : Int) = 0) = False := by simp
  have f70 : ((7 : Int) = 0) = False := by simp
  have big : (lg d = 4 ∨ lg p = 4) → maxs (.int .i64 (lg d)) [.int .i64 (lg p)] = some (.int .i64 4) := by
    intro h
    rcases lg_cases d with ⟨h1, _⟩ | ⟨h1, _⟩ <;> rcases lg_cases p with ⟨h2, _⟩ | ⟨h2, _⟩ <;> rw [h1, h2] <;> first | rfl | (rw [h1, h2] at h; rcases h with h | h <;> cases h)
  by_cases hl : lg d = 4 ∨ lg p = 4
  · simp only [c_rep19, repV, bd_of4 hl, f40, if_false, WK_skip, WK_seq, WX_seq, WX_seq_exit, WX_seq_ret, WK_block, WX_block, WX_block_ret, WX_block_eq, WK_exit, WK_ret, WK_scope, WK_cond, WK_ops, WK_draw, WX_loop, WX_loop_exit, WX_loop_ret, WX_nil, WB_true, WB_false, WOs_nil, WDs_nil, WV_some, WA_some, WE_some, WDV_zero, WDE_none, putD_some, putD_none, WOs_g, WG_tt, WG_ff, WG_tf, WG_ft, WG_un, WOs_mov, WOs_bin, WOs_un, WOs_pick, WOs_toInt, WOs_len, WOs_load, WOs_iaddr, WOs_indexS, WOs_extr, WOs_field, WOs_toStr, WOs_call, WOs_store, WOs_append, WOs_slice, WOs_mx, WOs_mn, WOs_build, WOs_bslice, WOs_mkslice, WOs_alloc, WOs_lenA, WDs_mov, WDs_bin, WDs_call, evalQ_mov, evalQ_bin, evalQ_un, evalQ_pick, evalQ_toInt, evalQ_len, evalQ_load, evalQ_iaddr, evalQ_indexS, evalQ_extr, evalQ_field, evalQ_mx, evalQ_mn, evalQ_lenA, evalE_fn, evalE_append, evs_cons, evs_nil, ev_tmp, ev_lit, nth_zero, nth_succ, put_zero, put_succ, pickV_tt, pickV_ff, extrV_0, extrV_1, extrV_2, c_large19, big hl, eql_int, neq_int, ne_eq, not_false_eq_true, decide_true, decide_false, c_aw19, Ret_ret, result_1]
  · obtain ⟨l1, d1, d2⟩ : lg d = 0 ∧ -100000 ≤ d ∧ d ≤ 100000 := by
      rcases lg_cases d with h1 | ⟨h1, _⟩
      · exact h1
      · exact absurd (.inl h1) hl
    obtain ⟨l2, p1, p2⟩ : lg p = 0 ∧ -100000 ≤ p ∧ p ≤ 100000 := by
      rcases lg_cases p with h1 | ⟨h1, _⟩
      · exact h1
      · exact absurd (.inr h1) hl
    have hbd := bd_of l1 l2
    by_cases hd : 0 < d
    · have hd0 : 0 ≤ d := by omega
      simp only [c_rep19, repV, hbd, hd0, true_or, if_true, WK_skip, WK_seq, WX_seq, WX_seq_exit, WX_seq_ret, WK_block, WX_block, WX_block_ret, WX_block_eq, WK_exit, WK_ret, WK_scope, WK_cond, WK_ops, WK_draw, WX_loop, WX_loop_exit, WX_loop_ret, WX_nil, WB_true, WB_false, WOs_nil, WDs_nil, WV_some, WA_some, WE_some, WDV_zero, WDE_none, putD_some, putD_none, WOs_g, WG_tt, WG_ff, WG_tf, WG_ft, WG_un, WOs_mov, WOs_bin, WOs_un, WOs_pick, WOs_toInt, WOs_len, WOs_load, WOs_iaddr, WOs_indexS, WOs_extr, WOs_field, WOs_toStr, WOs_call, WOs_store, WOs_append, WOs_slice, WOs_mx, WOs_mn, WOs_build, WOs_bslice, WOs_mkslice, WOs_alloc, WOs_lenA, WDs_mov, WDs_bin, WDs_call, evalQ_mov, evalQ_bin, evalQ_un, evalQ_pick, evalQ_toInt, evalQ_len, evalQ_load, evalQ_iaddr, evalQ_indexS, evalQ_extr, evalQ_field, evalQ_mx, evalQ_mn, evalQ_lenA, evalE_fn, evalE_append, evs_cons, evs_nil, ev_tmp, ev_lit, nth_zero, nth_succ, put_zero, put_succ, pickV_tt, pickV_ff, extrV_0, extrV_1, extrV_2, c_large19, l1, l2, mx00, eql_int, neq_int, gtr_int, hd, f30, ne_eq, not_false_eq_true, decide_true, decide_false, c_aw19, Ret_ret, result_1]
    · by_cases hf : fundP d
      · have hd0 : ¬ 0 ≤ d := by
          intro e
          have : d = 0 := by omega
          exact hf.1 this
        rcases prE_cases p with ⟨q1, q2, q3⟩ | ⟨q1, q2⟩
        · have hp : ¬ p < 1 := by omega
          have e10 : ((10 : Int) = 0) = False := by simp
          simp only [c_rep19, repV, hbd, hd0, hf, q1, not_true_eq_false, false_or, or_false, or_self, if_true, if_false, WK_skip, WK_seq, WX_seq, WX_seq_exit, WX_seq_ret, WK_block, WX_block, WX_block_ret, WX_block_eq, WK_exit, WK_ret, WK_scope, WK_cond, WK_ops, WK_draw, WX_loop, WX_loop_exit, WX_loop_ret, WX_nil, WB_true, WB_false, WOs_nil, WDs_nil, WV_some, WA_some, WE_some, WDV_zero, WDE_none, putD_some, putD_none, WOs_g, WG_tt, WG_ff, WG_tf, WG_ft, WG_un, WOs_mov, WOs_bin, WOs_un, WOs_pick, WOs_toInt, WOs_len, WOs_load, WOs_iaddr, WOs_indexS, WOs_extr, WOs_field, WOs_toStr, WOs_call, WOs_store, WOs_append, WOs_slice, WOs_mx, WOs_mn, WOs_build, WOs_bslice, WOs_mkslice, WOs_alloc, WOs_lenA, WDs_mov, WDs_bin, WDs_call, evalQ_mov, evalQ_bin, evalQ_un, evalQ_pick, evalQ_toInt, evalQ_len, evalQ_load, evalQ_iaddr, evalQ_indexS, evalQ_extr, evalQ_field, evalQ_mx, evalQ_mn, evalQ_lenA, evalE_fn, evalE_append, evs_cons, evs_nil, ev_tmp, ev_lit, nth_zero, nth_succ, put_zero, put_succ, pickV_tt, pickV_ff, extrV_0, extrV_1, extrV_2]
          cases hr : repF (-d).toNat p.toNat 1000 0 with
          | none => simp only [WK_skip, WK_seq, WX_seq, WX_seq_exit, WX_seq_ret, WK_block, WX_block, WX_block_ret, WX_block_eq, WK_exit, WK_ret, WK_scope, WK_cond, WK_ops, WK_draw, WX_loop, WX_loop_exit, WX_loop_ret, WX_nil, WB_true, WB_false, WOs_nil, WDs_nil, WV_some, WA_some, WE_some, WDV_zero, WDE_none, putD_some, putD_none, WOs_g, WG_tt, WG_ff, WG_tf, WG_ft, WG_un, WOs_mov, WOs_bin, WOs_un, WOs_pick, WOs_toInt, WOs_len, WOs_load, WOs_iaddr, WOs_indexS, WOs_extr, WOs_field, WOs_toStr, WOs_call, WOs_store, WOs_append, WOs_slice, WOs_mx, WOs_mn, WOs_build, WOs_bslice, WOs_mkslice, WOs_alloc, WOs_lenA, WDs_mov, WDs_bin, WDs_call, evalQ_mov, evalQ_bin, evalQ_un, evalQ_pick, evalQ_toInt, evalQ_len, evalQ_load, evalQ_iaddr, evalQ_indexS, evalQ_extr, evalQ_field, evalQ_mx, evalQ_mn, evalQ_lenA, evalE_fn, evalE_append, evs_cons, evs_nil, ev_tmp, ev_lit, nth_zero, nth_succ, put_zero, put_succ, pickV_tt, pickV_ff, extrV_0, extrV_1, extrV_2, c_large19, l1, l2, mx00, eql_int, neq_int, gtr_int, lss_int, hd, hf, hp, c_rfund19, c_rpr19 (show 0 ≤ p by omega) p2, q3, c_rrep19 d1 (show d < 0 by omega) q2 p2, hr, and_self, not_bool, Bool.not_true, Bool.not_false, ne_eq, not_true_eq_false, decide_true, decide_false, c_aw19, Ret_ret, result_1]
          | some ab =>
            obtain ⟨a, b⟩ := ab
            simp only [WK_skip, WK_seq, WX_seq, WX_seq_exit, WX_seq_ret, WK_block, WX_block, WX_block_ret, WX_block_eq, WK_exit, WK_ret, WK_scope, WK_cond, WK_ops, WK_draw, WX_loop, WX_loop_exit, WX_loop_ret, WX_nil, WB_true, WB_false, WOs_nil, WDs_nil, WV_some, WA_some, WE_some, WDV_zero, WDE_none, putD_some, putD_none, WOs_g, WG_tt, WG_ff, WG_tf, WG_ft, WG_un, WOs_mov, WOs_bin, WOs_un, WOs_pick, WOs_toInt, WOs_len, WOs_load, WOs_iaddr, WOs_indexS, WOs_extr, WOs_field, WOs_toStr, WOs_call, WOs_store, WOs_append, WOs_slice, WOs_mx, WOs_mn, WOs_build, WOs_bslice, WOs_mkslice, WOs_alloc, WOs_lenA, WDs_mov, WDs_bin, WDs_call, evalQ_mov, evalQ_bin, evalQ_un, evalQ_pick, evalQ_toInt, evalQ_len, evalQ_load, evalQ_iaddr, evalQ_indexS, evalQ_extr, evalQ_field, evalQ_mx, evalQ_mn, evalQ_lenA, evalE_fn, evalE_append, evs_cons, evs_nil, ev_tmp, ev_lit, nth_zero, nth_succ, put_zero, put_succ, pickV_tt, pickV_ff, extrV_0, extrV_1, extrV_2, c_large19, l1, l2, mx00, eql_int, neq_int, gtr_int, lss_int, hd, hf, hp, c_rfund19, c_rpr19 (show 0 ≤ p by omega) p2, q3, c_rrep19 d1 (show d < 0 by omega) q2 p2, hr, and_self, not_bool, Bool.not_true, Bool.not_false, ne_eq, not_true_eq_false, decide_true, decide_false, c_aw19, Ret_ret, result_1]
        · by_cases hp : p < 1
          · simp only [c_rep19, repV, hbd, hd0, hf, q1, f70, not_true_eq_false, false_or, or_false, or_self, if_true, if_false, WK_skip, WK_seq, WX_seq, WX_seq_exit, WX_seq_ret, WK_block, WX_block, WX_block_ret, WX_block_eq, WK_exit, WK_ret, WK_scope, WK_cond, WK_ops, WK_draw, WX_loop, WX_loop_exit, WX_loop_ret, WX_nil, WB_true, WB_false, WOs_nil, WDs_nil, WV_some, WA_some, WE_some, WDV_zero, WDE_none, putD_some, putD_none, WOs_g, WG_tt, WG_ff, WG_tf, WG_ft, WG_un, WOs_mov, WOs_bin, WOs_un, WOs_pick, WOs_toInt, WOs_len, WOs_load, WOs_iaddr, WOs_indexS, WOs_extr, WOs_field, WOs_toStr, WOs_call, WOs_store, WOs_append, WOs_slice, WOs_mx, WOs_mn, WOs_build, WOs_bslice, WOs_mkslice, WOs_alloc, WOs_lenA, WDs_mov, WDs_bin, WDs_call, evalQ_mov, evalQ_bin, evalQ_un, evalQ_pick, evalQ_toInt, evalQ_len, evalQ_load, evalQ_iaddr, evalQ_indexS, evalQ_extr, evalQ_field, evalQ_mx, evalQ_mn, evalQ_lenA, evalE_fn, evalE_append, evs_cons, evs_nil, ev_tmp, ev_lit, nth_zero, nth_succ, put_zero, put_succ, pickV_tt, pickV_ff, extrV_0, extrV_1, extrV_2, c_large19, l1, l2, mx00, eql_int, neq_int, gtr_int, lss_int, hd, hp, c_rfund19, and_self, not_bool, Bool.not_true, ne_eq, not_false_eq_true, decide_true, decide_false, c_aw19, Ret_ret, result_1]
          · have q3 : isPB p.toNat = false := by
              cases hb : isPB p.toNat
              · rfl
              · exact absurd ⟨by omega, hb⟩ q2
            simp only [c_rep19, repV, hbd, hd0, hf, q1, f70, not_true_eq_false, false_or, or_false, or_self, if_true, if_false, WK_skip, WK_seq, WX_seq, WX_seq_exit, WX_seq_ret, WK_block, WX_block, WX_block_ret, WX_block_eq, WK_exit, WK_ret, WK_scope, WK_cond, WK_ops, WK_draw, WX_loop, WX_loop_exit, WX_loop_ret, WX_nil, WB_true, WB_false, WOs_nil, WDs_nil, WV_some, WA_some, WE_some, WDV_zero, WDE_none, putD_some, putD_none, WOs_g, WG_tt, WG_ff, WG_tf, WG_ft, WG_un, WOs_mov, WOs_bin, WOs_un, WOs_pick, WOs_toInt, WOs_len, WOs_load, WOs_iaddr, WOs_indexS, WOs_extr, WOs_field, WOs_toStr, WOs_call, WOs_store, WOs_append, WOs_slice, WOs_mx, WOs_mn, WOs_build, WOs_bslice, WOs_mkslice, WOs_alloc, WOs_lenA, WDs_mov, WDs_bin, WDs_call, evalQ_mov, evalQ_bin, evalQ_un, evalQ_pick, evalQ_toInt, evalQ_len, evalQ_load, evalQ_iaddr, evalQ_indexS, evalQ_extr, evalQ_field, evalQ_mx, evalQ_mn, evalQ_lenA, evalE_fn, evalE_append, evs_cons, evs_nil, ev_tmp, ev_lit, nth_zero, nth_succ, put_zero, put_succ, pickV_tt, pickV_ff, extrV_0, extrV_1, extrV_2, c_large19, l1, l2, mx00, eql_int, neq_int, gtr_int, lss_int, hd, hp, c_rfund19, c_rpr19 (show 0 ≤ p by omega) p2, q3, and_self, not_bool, Bool.not_true, Bool.not_false, ne_eq, not_false_eq_true, decide_true, decide_false, c_aw19, Ret_ret, result_1]
      · simp only [c_rep19, repV, hbd, hf, not_false_eq_true, or_true, if_true, WK_skip, WK_seq, WX_seq, WX_seq_exit, WX_seq_ret, WK_block, WX_block, WX_block_ret, WX_block_eq, WK_exit, WK_ret, WK_scope, WK_cond, WK_ops, WK_draw, WX_loop, WX_loop_exit, WX_loop_ret, WX_nil, WB_true, WB_false, WOs_nil, WDs_nil, WV_some, WA_some, WE_some, WDV_zero, WDE_none, putD_some, putD_none, WOs_g, WG_tt, WG_ff, WG_tf, WG_ft, WG_un, WOs_mov, WOs_bin, WOs_un, WOs_pick, WOs_toInt, WOs_len, WOs_load, WOs_iaddr, WOs_indexS, WOs_extr, WOs_field, WOs_toStr, WOs_call, WOs_store, WOs_append, WOs_slice, WOs_mx, WOs_mn, WOs_build, WOs_bslice, WOs_mkslice, WOs_alloc, WOs_lenA, WDs_mov, WDs_bin, WDs_call, evalQ_mov, evalQ_bin, evalQ_un, evalQ_pick, evalQ_toInt, evalQ_len, evalQ_load, evalQ_iaddr, evalQ_indexS, evalQ_extr, evalQ_field, evalQ_mx, evalQ_mn, evalQ_lenA, evalE_fn, evalE_append, evs_cons, evs_nil, ev_tmp, ev_lit, nth_zero, nth_succ, put_zero, put_succ, pickV_tt, pickV_ff, extrV_0, extrV_1, extrV_2, c_large19, l1, l2, mx00, eql_int, neq_int, gtr_int, hd, c_rfund19, and_false, f30, not_bool, Bool.not_false, ne_eq, decide_true, decide_false, c_aw19, Ret_ret, result_1]
end Go.AM
