/- QuadraticForms: what the law's code answers. No condition. -/
import Derived.Test.YtemmnocgkgoegaaFrm6
set_option maxRecDepth 100000
set_option linter.unusedSimpArgs false
set_option linter.unusedVariables false
namespace Go.AM
open Go
theorem neqSame (f : F3) : bin .neq (.flat [1, 1, 1]) (fVq f) (fVq f) = some (.bool false) := by
  obtain ⟨a, b, c⟩ := f
  have e : eqCells [1, 1, 1] (fC a b c) (fC a b c) = some true := by
    show (match some (ieq a a) with | some true => (match some (ieq b b) with | some true => (match some (ieq c c) with | some true => some true | r => r) | r => r) | r => r) = _
    rw [ieq_eq, ieq_eq, ieq_eq]
    simp
  have e2 : eqv (.flat [1, 1, 1]) (fVq (a, b, c)) (fVq (a, b, c)) = some true := by
    show (if (fC a b c).length = 3 ∧ (fC a b c).length = 3 then eqCells [1, 1, 1] (fC a b c) (fC a b c) else none) = _
    rw [if_pos ⟨rfl, rfl⟩, e]
  show (match eqv (.flat [1, 1, 1]) (fVq (a, b, c)) (fVq (a, b, c)) with | some b => some (AV.bool (!b)) | none => none) = _
  rw [e2]; rfl
section
variable {h : AHeap} {L : List F3} {K : List Fr} {Q : AX → St → Prop}
noncomputable def equB : ACode := match of23.body with | .seq _ (.seq _ (.seq (.seq _ (.block _ (.loop b))) _)) => b | c => c
theorem equ_loop {i j : Nat} (hi : cellsOf h i = some (flat3 L)) (hj : cellsOf h j = some (flat3 L)) (hn : L.length ≤ 50000) : ∀ (f k : Nat) (y3 y4 : AV), k + f = L.length →
    (∀ z2 z3 z4 : AV, WX (lim otab.get L8) (.exit 0) K ⟨[sV i L.length, sV j L.length, z2, z3, z4, .int .i64 (L.length : Int)], h⟩ Q) →
    WK (lim otab.get L8) (.loop equB) K ⟨[sV i L.length, sV j L.length, .int .i64 (k : Int), y3, y4, .int .i64 (L.length : Int)], h⟩ Q := by
  intro f
  induction f with
  | zero =>
    intro k y3 y4 hf hQ
    refine WK_loop' (by dsimp only [equB, of23]) ?_
    have e : ¬ (k : Int) < (L.length : Int) := by omega
    simp only [WK_skip, WK_seq, WX_seq, WX_seq_exit, WX_seq_ret, WK_block, WX_block, WX_block_ret, WX_block_eq, WK_exit, WK_ret, WK_scope, WK_cond, WK_ops, WK_draw, WX_loop, WX_loop_exit, WX_loop_ret, WX_nil, WB_true, WB_false, WOs_nil, WDs_nil, WV_some, WA_some, WE_some, WDV_zero, WDE_none, putD_some, putD_none, WOs_g, WG_tt, WG_ff, WG_tf, WG_ft, WG_un, WOs_mov, WOs_bin, WOs_un, WOs_pick, WOs_toInt, WOs_len, WOs_load, WOs_iaddr, WOs_extr, WOs_call, WOs_store, WOs_append, WOs_slice, WOs_mx, WOs_mn, WOs_build, WOs_bslice, WOs_alloc, WDs_mov, WDs_bin, WDs_call, evalQ_mov, evalQ_bin, evalQ_un, evalQ_pick, evalQ_toInt, evalQ_len, evalQ_load, evalQ_iaddr, evalQ_extr, evalQ_mx, evalQ_mn, evalE_fn, evalE_append, evs_cons, evs_nil, ev_tmp, ev_lit, nth_zero, nth_succ, put_zero, put_succ, pickV_tt, pickV_ff, extrV_0, extrV_1, extrV_2, lss_int, e, decide_false]
    exact hQ _ _ _
  | succ f ih =>
    intro k y3 y4 hf hQ
    refine WK_loop' (by dsimp only [equB, of23]) ?_
    have e : (k : Int) < (L.length : Int) := by omega
    have hk : k < L.length := by omega
    simp (disch := omega) only [WK_skip, WK_seq, WX_seq, WX_seq_exit, WX_seq_ret, WK_block, WX_block, WX_block_ret, WX_block_eq, WK_exit, WK_ret, WK_scope, WK_cond, WK_ops, WK_draw, WX_loop, WX_loop_exit, WX_loop_ret, WX_nil, WB_true, WB_false, WOs_nil, WDs_nil, WV_some, WA_some, WE_some, WDV_zero, WDE_none, putD_some, putD_none, WOs_g, WG_tt, WG_ff, WG_tf, WG_ft, WG_un, WOs_mov, WOs_bin, WOs_un, WOs_pick, WOs_toInt, WOs_len, WOs_load, WOs_iaddr, WOs_extr, WOs_call, WOs_store, WOs_append, WOs_slice, WOs_mx, WOs_mn, WOs_build, WOs_bslice, WOs_alloc, WDs_mov, WDs_bin, WDs_call, evalQ_mov, evalQ_bin, evalQ_un, evalQ_pick, evalQ_toInt, evalQ_len, evalQ_load, evalQ_iaddr, evalQ_extr, evalQ_mx, evalQ_mn, evalE_fn, evalE_append, evs_cons, evs_nil, ev_tmp, ev_lit, nth_zero, nth_succ, put_zero, put_succ, pickV_tt, pickV_ff, extrV_0, extrV_1, extrV_2, WDs_iaddr, WDs_load, iaddrV_ok, lss_int, e, decide_true, ldE hi hk, ldE hj hk, neqSame, add_i64, show (k : Int) + 1 = ((k + 1 : Nat) : Int) from rfl]
    exact ih (k + 1) _ _ (by omega) hQ
theorem equ_ok {i j : Nat} (hi : cellsOf h i = some (flat3 L)) (hj : cellsOf h j = some (flat3 L)) (hn : L.length ≤ 50000) : lim otab.get L8 (.fn 23) [sV i L.length, sV j L.length] h = some (.bool true, h) := by
  refine runH (fn := of23) rfl rfl ?_
  show WK _ _ [] ⟨[sV i L.length, sV j L.length, aundef, aundef, aundef, aundef], h⟩ _
  dsimp only [of23]
  have l0 : ∀ i, lenV 1 (sV i L.length) h = some (.int .i64 (L.length : Int)) := fun _ => rfl
  simp only [WK_skip, WK_seq, WX_seq, WX_seq_exit, WX_seq_ret, WK_block, WX_block, WX_block_ret, WX_block_eq, WK_exit, WK_ret, WK_scope, WK_cond, WK_ops, WK_draw, WX_loop, WX_loop_exit, WX_loop_ret, WX_nil, WB_true, WB_false, WOs_nil, WDs_nil, WV_some, WA_some, WE_some, WDV_zero, WDE_none, putD_some, putD_none, WOs_g, WG_tt, WG_ff, WG_tf, WG_ft, WG_un, WOs_mov, WOs_bin, WOs_un, WOs_pick, WOs_toInt, WOs_len, WOs_load, WOs_iaddr, WOs_extr, WOs_call, WOs_store, WOs_append, WOs_slice, WOs_mx, WOs_mn, WOs_build, WOs_bslice, WOs_alloc, WDs_mov, WDs_bin, WDs_call, evalQ_mov, evalQ_bin, evalQ_un, evalQ_pick, evalQ_toInt, evalQ_len, evalQ_load, evalQ_iaddr, evalQ_extr, evalQ_mx, evalQ_mn, evalE_fn, evalE_append, evs_cons, evs_nil, ev_tmp, ev_lit, nth_zero, nth_succ, put_zero, put_succ, pickV_tt, pickV_ff, extrV_0, extrV_1, extrV_2, l0, neq_int, ne_eq, not_true_eq_false, decide_false]
  refine equ_loop hi hj hn L.length 0 _ _ (by omega) fun z2 z3 z4 => ?_
  simp only [WK_skip, WK_seq, WX_seq, WX_seq_exit, WX_seq_ret, WK_block, WX_block, WX_block_ret, WX_block_eq, WK_exit, WK_ret, WK_scope, WK_cond, WK_ops, WK_draw, WX_loop, WX_loop_exit, WX_loop_ret, WX_nil, WB_true, WB_false, WOs_nil, WDs_nil, WV_some, WA_some, WE_some, WDV_zero, WDE_none, putD_some, putD_none, WOs_g, WG_tt, WG_ff, WG_tf, WG_ft, WG_un, WOs_mov, WOs_bin, WOs_un, WOs_pick, WOs_toInt, WOs_len, WOs_load, WOs_iaddr, WOs_extr, WOs_call, WOs_store, WOs_append, WOs_slice, WOs_mx, WOs_mn, WOs_build, WOs_bslice, WOs_alloc, WDs_mov, WDs_bin, WDs_call, evalQ_mov, evalQ_bin, evalQ_un, evalQ_pick, evalQ_toInt, evalQ_len, evalQ_load, evalQ_iaddr, evalQ_extr, evalQ_mx, evalQ_mn, evalE_fn, evalE_append, evs_cons, evs_nil, ev_tmp, ev_lit, nth_zero, nth_succ, put_zero, put_succ, pickV_tt, pickV_ff, extrV_0, extrV_1, extrV_2, RetH_ret, result_1, and_self]
theorem equ_nil : lim otab.get L8 (.fn 23) [.nils, .nils] h = some (.bool true, h) := by
  refine runH (fn := of23) rfl rfl ?_
  show WK _ _ [] ⟨[.nils, .nils, aundef, aundef, aundef, aundef], h⟩ _
  dsimp only [of23]
  have l0 : lenV 1 .nils h = some (.int .i64 0) := rfl
  simp only [WK_skip, WK_seq, WX_seq, WX_seq_exit, WX_seq_ret, WK_block, WX_block, WX_block_ret, WX_block_eq, WK_exit, WK_ret, WK_scope, WK_cond, WK_ops, WK_draw, WX_loop, WX_loop_exit, WX_loop_ret, WX_nil, WB_true, WB_false, WOs_nil, WDs_nil, WV_some, WA_some, WE_some, WDV_zero, WDE_none, putD_some, putD_none, WOs_g, WG_tt, WG_ff, WG_tf, WG_ft, WG_un, WOs_mov, WOs_bin, WOs_un, WOs_pick, WOs_toInt, WOs_len, WOs_load, WOs_iaddr, WOs_extr, WOs_call, WOs_store, WOs_append, WOs_slice, WOs_mx, WOs_mn, WOs_build, WOs_bslice, WOs_alloc, WDs_mov, WDs_bin, WDs_call, evalQ_mov, evalQ_bin, evalQ_un, evalQ_pick, evalQ_toInt, evalQ_len, evalQ_load, evalQ_iaddr, evalQ_extr, evalQ_mx, evalQ_mn, evalE_fn, evalE_append, evs_cons, evs_nil, ev_tmp, ev_lit, nth_zero, nth_succ, put_zero, put_succ, pickV_tt, pickV_ff, extrV_0, extrV_1, extrV_2, l0, neq_int, ne_eq, not_true_eq_false, decide_false]
  refine WK_loop ?_
  simp only [WK_skip, WK_seq, WX_seq, WX_seq_exit, WX_seq_ret, WK_block, WX_block, WX_block_ret, WX_block_eq, WK_exit, WK_ret, WK_scope, WK_cond, WK_ops, WK_draw, WX_loop, WX_loop_exit, WX_loop_ret, WX_nil, WB_true, WB_false, WOs_nil, WDs_nil, WV_some, WA_some, WE_some, WDV_zero, WDE_none, putD_some, putD_none, WOs_g, WG_tt, WG_ff, WG_tf, WG_ft, WG_un, WOs_mov, WOs_bin, WOs_un, WOs_pick, WOs_toInt, WOs_len, WOs_load, WOs_iaddr, WOs_extr, WOs_call, WOs_store, WOs_append, WOs_slice, WOs_mx, WOs_mn, WOs_build, WOs_bslice, WOs_alloc, WDs_mov, WDs_bin, WDs_call, evalQ_mov, evalQ_bin, evalQ_un, evalQ_pick, evalQ_toInt, evalQ_len, evalQ_load, evalQ_iaddr, evalQ_extr, evalQ_mx, evalQ_mn, evalE_fn, evalE_append, evs_cons, evs_nil, ev_tmp, ev_lit, nth_zero, nth_succ, put_zero, put_succ, pickV_tt, pickV_ff, extrV_0, extrV_1, extrV_2, lss_int, show decide ((0 : Int) < 0) = false from rfl, RetH_ret, result_1, and_self]
/-- two lists of the same forms, the second one made after the first one -/
theorem LI.equal {h0 h1 h2 : AHeap} {b b' : AV} (H : LI h0 h1 b L) (H' : LI h1 h2 b' L) (hn : L.length ≤ 50000) : lim otab.get L8 (.fn 23) [b, b'] h2 = some (.bool true, h2) := by
  rcases H.val with ⟨e1, e2⟩ | ⟨i, e1, e2, e3, e4, e5⟩
  · rcases H'.val with ⟨f1, f2⟩ | ⟨j, f1, f2, f3, f4, f5⟩
    · subst e1; subst f1; exact equ_nil
    · exact absurd e2 f2
  · rcases H'.val with ⟨f1, f2⟩ | ⟨j, f1, f2, f3, f4, f5⟩
    · exact absurd f2 e2
    · subst e1; subst f1
      refine equ_ok ?_ ?_ hn
      · unfold cellsOf; rw [H'.same i e4, e5]
      · unfold cellsOf; rw [f5]
/-- the errors -/
theorem forms_large {d : Int} (hl : lg d = 4) : ∃ h', lim otab.get L8 (.fn 22) [.int .i64 d] h = some (.tup [.nils, .int .i64 4], h') := by
  refine run_of (fn := of22) rfl rfl ?_
  show WK _ _ [] ⟨[.int .i64 d, aundef, aundef, aundef, aundef, aundef, aundef, aundef, aundef], h⟩ _
  dsimp only [of22]
  simp only [WK_skip, WK_seq, WX_seq, WX_seq_exit, WX_seq_ret, WK_block, WX_block, WX_block_ret, WX_block_eq, WK_exit, WK_ret, WK_scope, WK_cond, WK_ops, WK_draw, WX_loop, WX_loop_exit, WX_loop_ret, WX_nil, WB_true, WB_false, WOs_nil, WDs_nil, WV_some, WA_some, WE_some, WDV_zero, WDE_none, putD_some, putD_none, WOs_g, WG_tt, WG_ff, WG_tf, WG_ft, WG_un, WOs_mov, WOs_bin, WOs_un, WOs_pick, WOs_toInt, WOs_len, WOs_load, WOs_iaddr, WOs_extr, WOs_call, WOs_store, WOs_append, WOs_slice, WOs_mx, WOs_mn, WOs_build, WOs_bslice, WOs_alloc, WDs_mov, WDs_bin, WDs_call, evalQ_mov, evalQ_bin, evalQ_un, evalQ_pick, evalQ_toInt, evalQ_len, evalQ_load, evalQ_iaddr, evalQ_extr, evalQ_mx, evalQ_mn, evalE_fn, evalE_append, evs_cons, evs_nil, ev_tmp, ev_lit, nth_zero, nth_succ, put_zero, put_succ, pickV_tt, pickV_ff, extrV_0, extrV_1, extrV_2]
  rw [bslice1 rfl rfl]
  simp only [WK_skip, WK_seq, WX_seq, WX_seq_exit, WX_seq_ret, WK_block, WX_block, WX_block_ret, WX_block_eq, WK_exit, WK_ret, WK_scope, WK_cond, WK_ops, WK_draw, WX_loop, WX_loop_exit, WX_loop_ret, WX_nil, WB_true, WB_false, WOs_nil, WDs_nil, WV_some, WA_some, WE_some, WDV_zero, WDE_none, putD_some, putD_none, WOs_g, WG_tt, WG_ff, WG_tf, WG_ft, WG_un, WOs_mov, WOs_bin, WOs_un, WOs_pick, WOs_toInt, WOs_len, WOs_load, WOs_iaddr, WOs_extr, WOs_call, WOs_store, WOs_append, WOs_slice, WOs_mx, WOs_mn, WOs_build, WOs_bslice, WOs_alloc, WDs_mov, WDs_bin, WDs_call, evalQ_mov, evalQ_bin, evalQ_un, evalQ_pick, evalQ_toInt, evalQ_len, evalQ_load, evalQ_iaddr, evalQ_extr, evalQ_mx, evalQ_mn, evalE_fn, evalE_append, evs_cons, evs_nil, ev_tmp, ev_lit, nth_zero, nth_succ, put_zero, put_succ, pickV_tt, pickV_ff, extrV_0, extrV_1, extrV_2, bounded_1 (I := L8) (fun _ _ => rfl), hl, eql_int, show decide ((4 : Int) = 0) = false from rfl, neq_int, show decide ((4 : Int) ≠ 0) = true from rfl, Ret_ret, result_2]
theorem forms_range {d : Int} (hl : lg d = 0) (hd : 0 ≤ d ∨ d < -10000 ∨ ¬ fundP d) : ∃ h', lim otab.get L8 (.fn 22) [.int .i64 d] h = some (.tup [.nils, .int .i64 3], h') := by
  refine run_of (fn := of22) rfl rfl ?_
  show WK _ _ [] ⟨[.int .i64 d, aundef, aundef, aundef, aundef, aundef, aundef, aundef, aundef], h⟩ _
  dsimp only [of22]
  simp only [WK_skip, WK_seq, WX_seq, WX_seq_exit, WX_seq_ret, WK_block, WX_block, WX_block_ret, WX_block_eq, WK_exit, WK_ret, WK_scope, WK_cond, WK_ops, WK_draw, WX_loop, WX_loop_exit, WX_loop_ret, WX_nil, WB_true, WB_false, WOs_nil, WDs_nil, WV_some, WA_some, WE_some, WDV_zero, WDE_none, putD_some, putD_none, WOs_g, WG_tt, WG_ff, WG_tf, WG_ft, WG_un, WOs_mov, WOs_bin, WOs_un, WOs_pick, WOs_toInt, WOs_len, WOs_load, WOs_iaddr, WOs_extr, WOs_call, WOs_store, WOs_append, WOs_slice, WOs_mx, WOs_mn, WOs_build, WOs_bslice, WOs_alloc, WDs_mov, WDs_bin, WDs_call, evalQ_mov, evalQ_bin, evalQ_un, evalQ_pick, evalQ_toInt, evalQ_len, evalQ_load, evalQ_iaddr, evalQ_extr, evalQ_mx, evalQ_mn, evalE_fn, evalE_append, evs_cons, evs_nil, ev_tmp, ev_lit, nth_zero, nth_succ, put_zero, put_succ, pickV_tt, pickV_ff, extrV_0, extrV_1, extrV_2]
  rw [bslice1 rfl rfl]
  have hb : -100000 ≤ d ∧ d ≤ 100000 := by rcases lg_cases d with h | h <;> omega
  by_cases t1 : (0 : Int) ≤ d
  · simp only [WK_skip, WK_seq, WX_seq, WX_seq_exit, WX_seq_ret, WK_block, WX_block, WX_block_ret, WX_block_eq, WK_exit, WK_ret, WK_scope, WK_cond, WK_ops, WK_draw, WX_loop, WX_loop_exit, WX_loop_ret, WX_nil, WB_true, WB_false, WOs_nil, WDs_nil, WV_some, WA_some, WE_some, WDV_zero, WDE_none, putD_some, putD_none, WOs_g, WG_tt, WG_ff, WG_tf, WG_ft, WG_un, WOs_mov, WOs_bin, WOs_un, WOs_pick, WOs_toInt, WOs_len, WOs_load, WOs_iaddr, WOs_extr, WOs_call, WOs_store, WOs_append, WOs_slice, WOs_mx, WOs_mn, WOs_build, WOs_bslice, WOs_alloc, WDs_mov, WDs_bin, WDs_call, evalQ_mov, evalQ_bin, evalQ_un, evalQ_pick, evalQ_toInt, evalQ_len, evalQ_load, evalQ_iaddr, evalQ_extr, evalQ_mx, evalQ_mn, evalE_fn, evalE_append, evs_cons, evs_nil, ev_tmp, ev_lit, nth_zero, nth_succ, put_zero, put_succ, pickV_tt, pickV_ff, extrV_0, extrV_1, extrV_2, bounded_1 (I := L8) (fun _ _ => rfl), hl, eql_int, decide_true, geq_int, t1, neq_int, show decide ((3 : Int) ≠ 0) = true from rfl, Ret_ret, result_2]
  · by_cases t2 : d < -10000
    · simp only [WK_skip, WK_seq, WX_seq, WX_seq_exit, WX_seq_ret, WK_block, WX_block, WX_block_ret, WX_block_eq, WK_exit, WK_ret, WK_scope, WK_cond, WK_ops, WK_draw, WX_loop, WX_loop_exit, WX_loop_ret, WX_nil, WB_true, WB_false, WOs_nil, WDs_nil, WV_some, WA_some, WE_some, WDV_zero, WDE_none, putD_some, putD_none, WOs_g, WG_tt, WG_ff, WG_tf, WG_ft, WG_un, WOs_mov, WOs_bin, WOs_un, WOs_pick, WOs_toInt, WOs_len, WOs_load, WOs_iaddr, WOs_extr, WOs_call, WOs_store, WOs_append, WOs_slice, WOs_mx, WOs_mn, WOs_build, WOs_bslice, WOs_alloc, WDs_mov, WDs_bin, WDs_call, evalQ_mov, evalQ_bin, evalQ_un, evalQ_pick, evalQ_toInt, evalQ_len, evalQ_load, evalQ_iaddr, evalQ_extr, evalQ_mx, evalQ_mn, evalE_fn, evalE_append, evs_cons, evs_nil, ev_tmp, ev_lit, nth_zero, nth_succ, put_zero, put_succ, pickV_tt, pickV_ff, extrV_0, extrV_1, extrV_2, bounded_1 (I := L8) (fun _ _ => rfl), hl, eql_int, decide_true, geq_int, t1, decide_false, lss_int, t2, neq_int, show decide ((3 : Int) ≠ 0) = true from rfl, Ret_ret, result_2]
    · have t3 : ¬ fundP d := by rcases hd with h | h | h <;> first | exact absurd h (by omega) | exact h
      simp only [WK_skip, WK_seq, WX_seq, WX_seq_exit, WX_seq_ret, WK_block, WX_block, WX_block_ret, WX_block_eq, WK_exit, WK_ret, WK_scope, WK_cond, WK_ops, WK_draw, WX_loop, WX_loop_exit, WX_loop_ret, WX_nil, WB_true, WB_false, WOs_nil, WDs_nil, WV_some, WA_some, WE_some, WDV_zero, WDE_none, putD_some, putD_none, WOs_g, WG_tt, WG_ff, WG_tf, WG_ft, WG_un, WOs_mov, WOs_bin, WOs_un, WOs_pick, WOs_toInt, WOs_len, WOs_load, WOs_iaddr, WOs_extr, WOs_call, WOs_store, WOs_append, WOs_slice, WOs_mx, WOs_mn, WOs_build, WOs_bslice, WOs_alloc, WDs_mov, WDs_bin, WDs_call, evalQ_mov, evalQ_bin, evalQ_un, evalQ_pick, evalQ_toInt, evalQ_len, evalQ_load, evalQ_iaddr, evalQ_extr, evalQ_mx, evalQ_mn, evalE_fn, evalE_append, evs_cons, evs_nil, ev_tmp, ev_lit, nth_zero, nth_succ, put_zero, put_succ, pickV_tt, pickV_ff, extrV_0, extrV_1, extrV_2, bounded_1 (I := L8) (fun _ _ => rfl), hl, eql_int, decide_true, geq_int, t1, decide_false, lss_int, t2, c_fund_8 hb.1 hb.2, t3, not_bool, Bool.not_false, neq_int, show decide ((3 : Int) ≠ 0) = true from rfl, Ret_ret, result_2]
end
theorem formLaw (d : Int) : ∃ h', lim otab.get L8 (.fn 5) [.int .i64 d] .empty = some (.bool true, h') := by
  refine run_of (fn := of5) rfl rfl ?_
  show WK _ _ [] ⟨[.int .i64 d, aundef, aundef, aundef, aundef, aundef, aundef], .empty⟩ _
  dsimp only [of5]
  have l0 : ∀ h, lenV 1 .nils h = some (.int .i64 0) := fun _ => rfl
  rcases lg_cases d with ⟨hl, hb1, hb2⟩ | ⟨hl, hb⟩
  · by_cases hd : 0 ≤ d ∨ d < -10000 ∨ ¬ fundP d
    · obtain ⟨h', e⟩ := forms_range (h := .empty) hl hd
      by_cases t1 : (0 : Int) < d
      · simp only [WK_skip, WK_seq, WX_seq, WX_seq_exit, WX_seq_ret, WK_block, WX_block, WX_block_ret, WX_block_eq, WK_exit, WK_ret, WK_scope, WK_cond, WK_ops, WK_draw, WX_loop, WX_loop_exit, WX_loop_ret, WX_nil, WB_true, WB_false, WOs_nil, WDs_nil, WV_some, WA_some, WE_some, WDV_zero, WDE_none, putD_some, putD_none, WOs_g, WG_tt, WG_ff, WG_tf, WG_ft, WG_un, WOs_mov, WOs_bin, WOs_un, WOs_pick, WOs_toInt, WOs_len, WOs_load, WOs_iaddr, WOs_extr, WOs_call, WOs_store, WOs_append, WOs_slice, WOs_mx, WOs_mn, WOs_build, WOs_bslice, WOs_alloc, WDs_mov, WDs_bin, WDs_call, evalQ_mov, evalQ_bin, evalQ_un, evalQ_pick, evalQ_toInt, evalQ_len, evalQ_load, evalQ_iaddr, evalQ_extr, evalQ_mx, evalQ_mn, evalE_fn, evalE_append, evs_cons, evs_nil, ev_tmp, ev_lit, nth_zero, nth_succ, put_zero, put_succ, pickV_tt, pickV_ff, extrV_0, extrV_1, extrV_2, e, c_large_8, hl, eql_int, decide_true, gtr_int, t1, neq_int, show decide ((3 : Int) ≠ 0) = true from rfl, l0, c_awake8, Ret_ret, result_1]
      · by_cases t2 : d < -10000
        · simp only [WK_skip, WK_seq, WX_seq, WX_seq_exit, WX_seq_ret, WK_block, WX_block, WX_block_ret, WX_block_eq, WK_exit, WK_ret, WK_scope, WK_cond, WK_ops, WK_draw, WX_loop, WX_loop_exit, WX_loop_ret, WX_nil, WB_true, WB_false, WOs_nil, WDs_nil, WV_some, WA_some, WE_some, WDV_zero, WDE_none, putD_some, putD_none, WOs_g, WG_tt, WG_ff, WG_tf, WG_ft, WG_un, WOs_mov, WOs_bin, WOs_un, WOs_pick, WOs_toInt, WOs_len, WOs_load, WOs_iaddr, WOs_extr, WOs_call, WOs_store, WOs_append, WOs_slice, WOs_mx, WOs_mn, WOs_build, WOs_bslice, WOs_alloc, WDs_mov, WDs_bin, WDs_call, evalQ_mov, evalQ_bin, evalQ_un, evalQ_pick, evalQ_toInt, evalQ_len, evalQ_load, evalQ_iaddr, evalQ_extr, evalQ_mx, evalQ_mn, evalE_fn, evalE_append, evs_cons, evs_nil, ev_tmp, ev_lit, nth_zero, nth_succ, put_zero, put_succ, pickV_tt, pickV_ff, extrV_0, extrV_1, extrV_2, e, c_large_8, hl, eql_int, decide_true, gtr_int, t1, decide_false, lss_int, t2, neq_int, show decide ((3 : Int) ≠ 0) = true from rfl, l0, c_awake8, Ret_ret, result_1]
        · have t3 : ¬ fundP d := by
            rcases hd with h | h | h
            · have : d = 0 := by omega
              subst this
              exact fun h => h.1 rfl
            · exact absurd h t2
            · exact h
          simp only [WK_skip, WK_seq, WX_seq, WX_seq_exit, WX_seq_ret, WK_block, WX_block, WX_block_ret, WX_block_eq, WK_exit, WK_ret, WK_scope, WK_cond, WK_ops, WK_draw, WX_loop, WX_loop_exit, WX_loop_ret, WX_nil, WB_true, WB_false, WOs_nil, WDs_nil, WV_some, WA_some, WE_some, WDV_zero, WDE_none, putD_some, putD_none, WOs_g, WG_tt, WG_ff, WG_tf, WG_ft, WG_un, WOs_mov, WOs_bin, WOs_un, WOs_pick, WOs_toInt, WOs_len, WOs_load, WOs_iaddr, WOs_extr, WOs_call, WOs_store, WOs_append, WOs_slice, WOs_mx, WOs_mn, WOs_build, WOs_bslice, WOs_alloc, WDs_mov, WDs_bin, WDs_call, evalQ_mov, evalQ_bin, evalQ_un, evalQ_pick, evalQ_toInt, evalQ_len, evalQ_load, evalQ_iaddr, evalQ_extr, evalQ_mx, evalQ_mn, evalE_fn, evalE_append, evs_cons, evs_nil, ev_tmp, ev_lit, nth_zero, nth_succ, put_zero, put_succ, pickV_tt, pickV_ff, extrV_0, extrV_1, extrV_2, e, c_large_8, hl, eql_int, decide_true, gtr_int, t1, decide_false, lss_int, t2, c_rfund8, t3, and_false, not_bool, Bool.not_false, neq_int, show decide ((3 : Int) ≠ 0) = true from rfl, l0, c_awake8, Ret_ret, result_1]
    · have d2 : d < 0 := by omega
      have d1 : -10000 ≤ d := by omega
      have hf : fundP d := Decidable.byContradiction fun h => hd (.inr (.inr h))
      obtain ⟨b, h1, e1, H1⟩ := forms_ok (h := .empty) d1 d2 hf
      obtain ⟨b', h2, e2, H2⟩ := rforms_ok (h := h1) d1 d2
      have e3 := H1.equal H2 (Nat.le_trans formL_len (by decide))
      have t1 : ¬ (0 : Int) < d := by omega
      have t2 : ¬ d < -10000 := by omega
      simp only [WK_skip, WK_seq, WX_seq, WX_seq_exit, WX_seq_ret, WK_block, WX_block, WX_block_ret, WX_block_eq, WK_exit, WK_ret, WK_scope, WK_cond, WK_ops, WK_draw, WX_loop, WX_loop_exit, WX_loop_ret, WX_nil, WB_true, WB_false, WOs_nil, WDs_nil, WV_some, WA_some, WE_some, WDV_zero, WDE_none, putD_some, putD_none, WOs_g, WG_tt, WG_ff, WG_tf, WG_ft, WG_un, WOs_mov, WOs_bin, WOs_un, WOs_pick, WOs_toInt, WOs_len, WOs_load, WOs_iaddr, WOs_extr, WOs_call, WOs_store, WOs_append, WOs_slice, WOs_mx, WOs_mn, WOs_build, WOs_bslice, WOs_alloc, WDs_mov, WDs_bin, WDs_call, evalQ_mov, evalQ_bin, evalQ_un, evalQ_pick, evalQ_toInt, evalQ_len, evalQ_load, evalQ_iaddr, evalQ_extr, evalQ_mx, evalQ_mn, evalE_fn, evalE_append, evs_cons, evs_nil, ev_tmp, ev_lit, nth_zero, nth_succ, put_zero, put_succ, pickV_tt, pickV_ff, extrV_0, extrV_1, extrV_2, e1, c_large_8, hl, eql_int, decide_true, gtr_int, t1, decide_false, lss_int, t2, c_rfund8, hf, and_self, not_bool, Bool.not_true, neq_int, show decide ((0 : Int) ≠ 0) = false from rfl, e2, e3, c_awake8, Ret_ret, result_1]
  · obtain ⟨h', e⟩ := forms_large (h := .empty) hl
    simp only [WK_skip, WK_seq, WX_seq, WX_seq_exit, WX_seq_ret, WK_block, WX_block, WX_block_ret, WX_block_eq, WK_exit, WK_ret, WK_scope, WK_cond, WK_ops, WK_draw, WX_loop, WX_loop_exit, WX_loop_ret, WX_nil, WB_true, WB_false, WOs_nil, WDs_nil, WV_some, WA_some, WE_some, WDV_zero, WDE_none, putD_some, putD_none, WOs_g, WG_tt, WG_ff, WG_tf, WG_ft, WG_un, WOs_mov, WOs_bin, WOs_un, WOs_pick, WOs_toInt, WOs_len, WOs_load, WOs_iaddr, WOs_extr, WOs_call, WOs_store, WOs_append, WOs_slice, WOs_mx, WOs_mn, WOs_build, WOs_bslice, WOs_alloc, WDs_mov, WDs_bin, WDs_call, evalQ_mov, evalQ_bin, evalQ_un, evalQ_pick, evalQ_toInt, evalQ_len, evalQ_load, evalQ_iaddr, evalQ_extr, evalQ_mx, evalQ_mn, evalE_fn, evalE_append, evs_cons, evs_nil, ev_tmp, ev_lit, nth_zero, nth_succ, put_zero, put_succ, pickV_tt, pickV_ff, extrV_0, extrV_1, extrV_2, e, c_large_8, hl, eql_int, decide_true, show decide ((4 : Int) = 0) = false from rfl, neq_int, show decide ((4 : Int) ≠ 0) = true from rfl, l0, c_awake8, Ret_ret, result_1]
end Go.AM
