/- QuadraticRepresents: what the law's code answers. No condition. -/
import Derived.Test.YtemmnocgkgoegaaFac2
set_option maxRecDepth 100000
set_option linter.unusedSimpArgs false
namespace Go.AM
open Go
/-- the root, rounded down -/
def rtF : Nat → Nat → Nat → Nat
  | 0, r, _ => r
  | f + 1, r, n => if (r + 1) * (r + 1) ≤ n then rtF f (r + 1) n else r
def rt (n : Nat) : Nat := rtF 1000 0 n
theorem rtF_ok : ∀ (f r n : Nat), n < (r + 1 + f) * (r + 1 + f) → r * r ≤ n → rtF f r n * rtF f r n ≤ n ∧ n < (rtF f r n + 1) * (rtF f r n + 1)
  | 0, r, n, h, h0 => ⟨h0, h⟩
  | f + 1, r, n, h, h0 => by
    unfold rtF
    by_cases e : (r + 1) * (r + 1) ≤ n
    · rw [if_pos e]
      exact rtF_ok f (r + 1) n (by rw [show r + 1 + 1 + f = r + 1 + (f + 1) by omega]; exact h) e
    · rw [if_neg e]; exact ⟨h0, by omega⟩
theorem rt_ok {n : Nat} (h : n ≤ 1000000) : rt n * rt n ≤ n ∧ n < (rt n + 1) * (rt n + 1) := rtF_ok 1000 0 n (by omega) (by omega)
theorem rt_le {n : Nat} (h : n ≤ 1000000) : rt n ≤ 1000 := by
  have h1 := (rt_ok h).1
  rcases Nat.lt_or_ge 1000 (rt n) with e | e
  · have : 1001 * 1001 ≤ rt n * rt n := Nat.mul_le_mul e e
    omega
  · exact e
theorem rt_sq {r : Nat} (h : r * r ≤ 1000000) : rt (r * r) = r := by
  obtain ⟨h1, h2⟩ := rt_ok h
  have a : rt (r * r) ≤ r := by
    rcases Nat.lt_or_ge r (rt (r * r)) with e | e
    · have := Nat.mul_le_mul (Nat.succ_le_of_lt e) (Nat.succ_le_of_lt e)
      have e2 : (r + 1) * (r + 1) = r * r + 2 * r + 1 := by rw [Nat.add_mul, Nat.mul_add]; omega
      simp only [Nat.succ_eq_add_one] at this
      omega
    · exact e
  have b : r < rt (r * r) + 1 := lt_of_sq h2
  omega
section
variable {C : CallT} {K : List Fr} {Q : AX → St → Prop} {h : AHeap}
noncomputable def rootB : ACode := match of62.body with | .seq _ (.seq _ (.seq (.block _ (.loop b)) _)) => b | c => c
theorem root_loop {n : Nat} (hn : n ≤ 1000000) : ∀ (f r : Nat) (y2 y3 : AV), r + f = 1000 →
    (∀ z2 z3 : AV, WX C (.exit 0) K ⟨[.int .i64 (n : Int), .int .i64 (rtF f r n : Int), z2, z3], h⟩ Q) →
    WK C (.loop rootB) K ⟨[.int .i64 (n : Int), .int .i64 (r : Int), y2, y3], h⟩ Q := by
  intro f
  induction f with
  | zero =>
    intro r y2 y3 hf hQ
    refine WK_loop' (by dsimp only [rootB, of62]) ?_
    have hr : r = 1000 := by omega
    subst hr
    have e2 : ¬ ((1000 : Nat) : Int) + 1 ≤ 0 := by omega
    have e1 : (((1000 : Nat) : Int) + 1) * (((1000 : Nat) : Int) + 1) = 1002001 := by decide
    have e3 : ¬ (1002001 : Int) ≤ (n : Int) := by omega
    simp (disch := omega) only [WK_skip, WK_seq, WX_seq, WX_seq_exit, WX_seq_ret, WK_block, WX_block, WX_block_ret, WX_block_eq, WK_exit, WK_ret, WK_scope, WK_cond, WK_ops, WK_draw, WX_loop, WX_loop_exit, WX_loop_ret, WX_nil, WB_true, WB_false, WOs_nil, WDs_nil, WV_some, WA_some, WE_some, WDV_zero, WDE_none, putD_some, putD_none, WOs_g, WG_tt, WG_ff, WG_tf, WG_ft, WOs_mov, WOs_bin, WOs_un, WOs_pick, WOs_toInt, WOs_len, WOs_load, WOs_iaddr, WOs_indexS, WOs_extr, WOs_field, WOs_toStr, WOs_call, WOs_store, WOs_append, WOs_slice, WOs_mx, WOs_mn, WOs_build, WOs_bslice, WOs_mkslice, WOs_alloc, WOs_lenA, WDs_mov, WDs_bin, WDs_call, evalQ_mov, evalQ_bin, evalQ_un, evalQ_pick, evalQ_toInt, evalQ_len, evalQ_load, evalQ_iaddr, evalQ_indexS, evalQ_extr, evalQ_field, evalQ_mx, evalQ_mn, evalQ_lenA, evalE_fn, evalE_append, evs_cons, evs_nil, ev_tmp, ev_lit, nth_zero, nth_succ, put_zero, put_succ, pickV_tt, pickV_ff, extrV_0, extrV_1, extrV_2, add_i64, mul_i64, e1, leq_int, e3, decide_false]
    exact hQ _ _
  | succ f ih =>
    intro r y2 y3 hf hQ
    refine WK_loop' (by dsimp only [rootB, of62]) ?_
    have e1 : ((r : Int) + 1) * ((r : Int) + 1) = (((r + 1) * (r + 1) : Nat) : Int) := by simp
    have hb : (r + 1) * (r + 1) ≤ 1001 * 1001 := Nat.mul_le_mul (by omega) (by omega)
    unfold rtF at hQ
    by_cases e : (r + 1) * (r + 1) ≤ n
    · have e3 : (((r + 1) * (r + 1) : Nat) : Int) ≤ (n : Int) := by omega
      simp (disch := omega) only [WK_skip, WK_seq, WX_seq, WX_seq_exit, WX_seq_ret, WK_block, WX_block, WX_block_ret, WX_block_eq, WK_exit, WK_ret, WK_scope, WK_cond, WK_ops, WK_draw, WX_loop, WX_loop_exit, WX_loop_ret, WX_nil, WB_true, WB_false, WOs_nil, WDs_nil, WV_some, WA_some, WE_some, WDV_zero, WDE_none, putD_some, putD_none, WOs_g, WG_tt, WG_ff, WG_tf, WG_ft, WOs_mov, WOs_bin, WOs_un, WOs_pick, WOs_toInt, WOs_len, WOs_load, WOs_iaddr, WOs_indexS, WOs_extr, WOs_field, WOs_toStr, WOs_call, WOs_store, WOs_append, WOs_slice, WOs_mx, WOs_mn, WOs_build, WOs_bslice, WOs_mkslice, WOs_alloc, WOs_lenA, WDs_mov, WDs_bin, WDs_call, evalQ_mov, evalQ_bin, evalQ_un, evalQ_pick, evalQ_toInt, evalQ_len, evalQ_load, evalQ_iaddr, evalQ_indexS, evalQ_extr, evalQ_field, evalQ_mx, evalQ_mn, evalQ_lenA, evalE_fn, evalE_append, evs_cons, evs_nil, ev_tmp, ev_lit, nth_zero, nth_succ, put_zero, put_succ, pickV_tt, pickV_ff, extrV_0, extrV_1, extrV_2, add_i64, mul_i64, e1, leq_int, e3, decide_true]
      simp only [if_pos e] at hQ
      exact ih (r + 1) _ _ (by omega) hQ
    · have e3 : ¬ (((r + 1) * (r + 1) : Nat) : Int) ≤ (n : Int) := by omega
      simp (disch := omega) only [WK_skip, WK_seq, WX_seq, WX_seq_exit, WX_seq_ret, WK_block, WX_block, WX_block_ret, WX_block_eq, WK_exit, WK_ret, WK_scope, WK_cond, WK_ops, WK_draw, WX_loop, WX_loop_exit, WX_loop_ret, WX_nil, WB_true, WB_false, WOs_nil, WDs_nil, WV_some, WA_some, WE_some, WDV_zero, WDE_none, putD_some, putD_none, WOs_g, WG_tt, WG_ff, WG_tf, WG_ft, WOs_mov, WOs_bin, WOs_un, WOs_pick, WOs_toInt, WOs_len, WOs_load, WOs_iaddr, WOs_indexS, WOs_extr, WOs_field, WOs_toStr, WOs_call, WOs_store, WOs_append, WOs_slice, WOs_mx, WOs_mn, WOs_build, WOs_bslice, WOs_mkslice, WOs_alloc, WOs_lenA, WDs_mov, WDs_bin, WDs_call, evalQ_mov, evalQ_bin, evalQ_un, evalQ_pick, evalQ_toInt, evalQ_len, evalQ_load, evalQ_iaddr, evalQ_indexS, evalQ_extr, evalQ_field, evalQ_mx, evalQ_mn, evalQ_lenA, evalE_fn, evalE_append, evs_cons, evs_nil, ev_tmp, ev_lit, nth_zero, nth_succ, put_zero, put_succ, pickV_tt, pickV_ff, extrV_0, extrV_1, extrV_2, add_i64, mul_i64, e1, leq_int, e3, decide_false]
      simp only [if_neg e] at hQ
      exact hQ _ _
noncomputable def sqrB : ACode := match of63.body with | .seq _ (.seq _ (.seq (.block _ (.loop b)) _)) => b | c => c
theorem sqr_loop {n : Nat} (hn : n ≤ 1000000) : ∀ (f r : Nat) (y2 : AV), r + f = 1000 → (∀ s, s < r → s * s < n) →
    (∀ (r' : Nat) (z2 : AV), r' ≤ 1000 → n ≤ r' * r' → (∀ s, s < r' → s * s < n) → WX C (.exit 0) K ⟨[.int .i64 (n : Int), .int .i64 (r' : Int), z2], h⟩ Q) →
    WK C (.loop sqrB) K ⟨[.int .i64 (n : Int), .int .i64 (r : Int), y2], h⟩ Q := by
  intro f
  induction f with
  | zero =>
    intro r y2 hf hs hQ
    refine WK_loop' (by dsimp only [sqrB, of63]) ?_
    have hr : r = 1000 := by omega
    subst hr
    have e1 : ((1000 : Nat) : Int) * ((1000 : Nat) : Int) = 1000000 := by decide
    have e3 : ¬ (1000000 : Int) < (n : Int) := by omega
    simp (disch := omega) only [WK_skip, WK_seq, WX_seq, WX_seq_exit, WX_seq_ret, WK_block, WX_block, WX_block_ret, WX_block_eq, WK_exit, WK_ret, WK_scope, WK_cond, WK_ops, WK_draw, WX_loop, WX_loop_exit, WX_loop_ret, WX_nil, WB_true, WB_false, WOs_nil, WDs_nil, WV_some, WA_some, WE_some, WDV_zero, WDE_none, putD_some, putD_none, WOs_g, WG_tt, WG_ff, WG_tf, WG_ft, WOs_mov, WOs_bin, WOs_un, WOs_pick, WOs_toInt, WOs_len, WOs_load, WOs_iaddr, WOs_indexS, WOs_extr, WOs_field, WOs_toStr, WOs_call, WOs_store, WOs_append, WOs_slice, WOs_mx, WOs_mn, WOs_build, WOs_bslice, WOs_mkslice, WOs_alloc, WOs_lenA, WDs_mov, WDs_bin, WDs_call, evalQ_mov, evalQ_bin, evalQ_un, evalQ_pick, evalQ_toInt, evalQ_len, evalQ_load, evalQ_iaddr, evalQ_indexS, evalQ_extr, evalQ_field, evalQ_mx, evalQ_mn, evalQ_lenA, evalE_fn, evalE_append, evs_cons, evs_nil, ev_tmp, ev_lit, nth_zero, nth_succ, put_zero, put_succ, pickV_tt, pickV_ff, extrV_0, extrV_1, extrV_2, mul_i64, e1, lss_int, e3, decide_false]
    exact hQ 1000 _ (by omega) (by omega) hs
  | succ f ih =>
    intro r y2 hf hs hQ
    refine WK_loop' (by dsimp only [sqrB, of63]) ?_
    have e1 : (r : Int) * (r : Int) = ((r * r : Nat) : Int) := by simp
    have hb : r * r ≤ 1000 * 1000 := Nat.mul_le_mul (by omega) (by omega)
    by_cases e : r * r < n
    · have e3 : ((r * r : Nat) : Int) < (n : Int) := by omega
      simp (disch := omega) only [WK_skip, WK_seq, WX_seq, WX_seq_exit, WX_seq_ret, WK_block, WX_block, WX_block_ret, WX_block_eq, WK_exit, WK_ret, WK_scope, WK_cond, WK_ops, WK_draw, WX_loop, WX_loop_exit, WX_loop_ret, WX_nil, WB_true, WB_false, WOs_nil, WDs_nil, WV_some, WA_some, WE_some, WDV_zero, WDE_none, putD_some, putD_none, WOs_g, WG_tt, WG_ff, WG_tf, WG_ft, WOs_mov, WOs_bin, WOs_un, WOs_pick, WOs_toInt, WOs_len, WOs_load, WOs_iaddr, WOs_indexS, WOs_extr, WOs_field, WOs_toStr, WOs_call, WOs_store, WOs_append, WOs_slice, WOs_mx, WOs_mn, WOs_build, WOs_bslice, WOs_mkslice, WOs_alloc, WOs_lenA, WDs_mov, WDs_bin, WDs_call, evalQ_mov, evalQ_bin, evalQ_un, evalQ_pick, evalQ_toInt, evalQ_len, evalQ_load, evalQ_iaddr, evalQ_indexS, evalQ_extr, evalQ_field, evalQ_mx, evalQ_mn, evalQ_lenA, evalE_fn, evalE_append, evs_cons, evs_nil, ev_tmp, ev_lit, nth_zero, nth_succ, put_zero, put_succ, pickV_tt, pickV_ff, extrV_0, extrV_1, extrV_2, mul_i64, e1, lss_int, e3, decide_true, add_i64, show (r : Int) + 1 = ((r + 1 : Nat) : Int) from rfl]
      refine ih (r + 1) _ (by omega) (fun s h => ?_) hQ
      rcases Nat.lt_or_ge s r with h1 | h1
      · exact hs s h1
      · have : s = r := by omega
        subst this; exact e
    · have e3 : ¬ ((r * r : Nat) : Int) < (n : Int) := by omega
      simp (disch := omega) only [WK_skip, WK_seq, WX_seq, WX_seq_exit, WX_seq_ret, WK_block, WX_block, WX_block_ret, WX_block_eq, WK_exit, WK_ret, WK_scope, WK_cond, WK_ops, WK_draw, WX_loop, WX_loop_exit, WX_loop_ret, WX_nil, WB_true, WB_false, WOs_nil, WDs_nil, WV_some, WA_some, WE_some, WDV_zero, WDE_none, putD_some, putD_none, WOs_g, WG_tt, WG_ff, WG_tf, WG_ft, WOs_mov, WOs_bin, WOs_un, WOs_pick, WOs_toInt, WOs_len, WOs_load, WOs_iaddr, WOs_indexS, WOs_extr, WOs_field, WOs_toStr, WOs_call, WOs_store, WOs_append, WOs_slice, WOs_mx, WOs_mn, WOs_build, WOs_bslice, WOs_mkslice, WOs_alloc, WOs_lenA, WDs_mov, WDs_bin, WDs_call, evalQ_mov, evalQ_bin, evalQ_un, evalQ_pick, evalQ_toInt, evalQ_len, evalQ_load, evalQ_iaddr, evalQ_indexS, evalQ_extr, evalQ_field, evalQ_mx, evalQ_mn, evalQ_lenA, evalE_fn, evalE_append, evs_cons, evs_nil, ev_tmp, ev_lit, nth_zero, nth_succ, put_zero, put_succ, pickV_tt, pickV_ff, extrV_0, extrV_1, extrV_2, mul_i64, e1, lss_int, e3, decide_false]
      exact hQ r _ (by omega) (by omega) hs
end
noncomputable def rootS : List AV → Option AV
  | [.int .i64 n] => if 0 ≤ n ∧ n ≤ 1000000 then some (.int .i64 (rt n.toNat : Int)) else none
  | _ => none
theorem root_run {n : Nat} (hn : n ≤ 1000000) : ∃ h', lim otab.get I16 (.fn 62) [.int .i64 (n : Int)] .empty = some (.int .i64 (rt n : Int), h') := by
  refine run_of (fn := of62) rfl rfl ?_
  show WK _ _ [] ⟨[.int .i64 (n : Int), aundef, aundef, aundef], .empty⟩ _
  dsimp only [of62]
  simp only [WK_skip, WK_seq, WX_seq, WX_seq_exit, WX_seq_ret, WK_block, WX_block, WX_block_ret, WX_block_eq, WK_exit, WK_ret, WK_scope, WK_cond, WK_ops, WK_draw, WX_loop, WX_loop_exit, WX_loop_ret, WX_nil, WB_true, WB_false, WOs_nil, WDs_nil, WV_some, WA_some, WE_some, WDV_zero, WDE_none, putD_some, putD_none, WOs_g, WG_tt, WG_ff, WG_tf, WG_ft, WOs_mov, WOs_bin, WOs_un, WOs_pick, WOs_toInt, WOs_len, WOs_load, WOs_iaddr, WOs_indexS, WOs_extr, WOs_field, WOs_toStr, WOs_call, WOs_store, WOs_append, WOs_slice, WOs_mx, WOs_mn, WOs_build, WOs_bslice, WOs_mkslice, WOs_alloc, WOs_lenA, WDs_mov, WDs_bin, WDs_call, evalQ_mov, evalQ_bin, evalQ_un, evalQ_pick, evalQ_toInt, evalQ_len, evalQ_load, evalQ_iaddr, evalQ_indexS, evalQ_extr, evalQ_field, evalQ_mx, evalQ_mn, evalQ_lenA, evalE_fn, evalE_append, evs_cons, evs_nil, ev_tmp, ev_lit, nth_zero, nth_succ, put_zero, put_succ, pickV_tt, pickV_ff, extrV_0, extrV_1, extrV_2]
  refine root_loop hn 1000 0 _ _ rfl fun z2 z3 => ?_
  simp only [WK_skip, WK_seq, WX_seq, WX_seq_exit, WX_seq_ret, WK_block, WX_block, WX_block_ret, WX_block_eq, WK_exit, WK_ret, WK_scope, WK_cond, WK_ops, WK_draw, WX_loop, WX_loop_exit, WX_loop_ret, WX_nil, WB_true, WB_false, WOs_nil, WDs_nil, WV_some, WA_some, WE_some, WDV_zero, WDE_none, putD_some, putD_none, WOs_g, WG_tt, WG_ff, WG_tf, WG_ft, WOs_mov, WOs_bin, WOs_un, WOs_pick, WOs_toInt, WOs_len, WOs_load, WOs_iaddr, WOs_indexS, WOs_extr, WOs_field, WOs_toStr, WOs_call, WOs_store, WOs_append, WOs_slice, WOs_mx, WOs_mn, WOs_build, WOs_bslice, WOs_mkslice, WOs_alloc, WOs_lenA, WDs_mov, WDs_bin, WDs_call, evalQ_mov, evalQ_bin, evalQ_un, evalQ_pick, evalQ_toInt, evalQ_len, evalQ_load, evalQ_iaddr, evalQ_indexS, evalQ_extr, evalQ_field, evalQ_mx, evalQ_mn, evalQ_lenA, evalE_fn, evalE_append, evs_cons, evs_nil, ev_tmp, ev_lit, nth_zero, nth_succ, put_zero, put_succ, pickV_tt, pickV_ff, extrV_0, extrV_1, extrV_2, Ret_ret, result_1]; rfl
noncomputable def I17 : Oracle := ext I16 62 rootS
theorem I17_ok : IOK Go.Proofs.Try.prog I17 := IOK.extL mixed tabOK otabOK I16_ok (g := 62) (fn := af62) rfl fun args av h => by
  unfold rootS at h
  split at h
  · split at h
    · rename_i n hn
      cases h
      obtain ⟨m, rfl⟩ := Int.eq_ofNat_of_zero_le hn.1
      exact ⟨rfl, rfl, root_run (by omega)⟩
    · cases h
  · cases h
/-- the reference's test of squares: the answer, told where it is yes -/
theorem sqr_lim {n : Nat} (hn : n ≤ 1000000) (h : AHeap) : ∃ r : Nat, r ≤ 1000 ∧ lim otab.get I17 (.fn 63) [.int .i64 (n : Int)] h = some (.tup [.int .i64 (r : Int), .bool (decide (rt n * rt n = n))], h) ∧ (rt n * rt n = n → r = rt n) := by
  have key := lim_walk_ex (T := otab.get) (I := I17) (fn := of63) (f := 63) rfl (a := [.int .i64 (n : Int)]) (h := h)
    (P := fun v h' => h' = h ∧ ∃ r : Nat, r ≤ 1000 ∧ v = .tup [.int .i64 (r : Int), .bool (decide (rt n * rt n = n))] ∧ (rt n * rt n = n → r = rt n)) rfl ?_
  · obtain ⟨v, h', e, rfl, r, h1, rfl, h2⟩ := key
    exact ⟨r, h1, e, h2⟩
  · show WK _ _ [] ⟨[.int .i64 (n : Int), aundef, aundef], h⟩ _
    dsimp only [of63]
    simp only [WK_skip, WK_seq, WX_seq, WX_seq_exit, WX_seq_ret, WK_block, WX_block, WX_block_ret, WX_block_eq, WK_exit, WK_ret, WK_scope, WK_cond, WK_ops, WK_draw, WX_loop, WX_loop_exit, WX_loop_ret, WX_nil, WB_true, WB_false, WOs_nil, WDs_nil, WV_some, WA_some, WE_some, WDV_zero, WDE_none, putD_some, putD_none, WOs_g, WG_tt, WG_ff, WG_tf, WG_ft, WOs_mov, WOs_bin, WOs_un, WOs_pick, WOs_toInt, WOs_len, WOs_load, WOs_iaddr, WOs_indexS, WOs_extr, WOs_field, WOs_toStr, WOs_call, WOs_store, WOs_append, WOs_slice, WOs_mx, WOs_mn, WOs_build, WOs_bslice, WOs_mkslice, WOs_alloc, WOs_lenA, WDs_mov, WDs_bin, WDs_call, evalQ_mov, evalQ_bin, evalQ_un, evalQ_pick, evalQ_toInt, evalQ_len, evalQ_load, evalQ_iaddr, evalQ_indexS, evalQ_extr, evalQ_field, evalQ_mx, evalQ_mn, evalQ_lenA, evalE_fn, evalE_append, evs_cons, evs_nil, ev_tmp, ev_lit, nth_zero, nth_succ, put_zero, put_succ, pickV_tt, pickV_ff, extrV_0, extrV_1, extrV_2]
    refine sqr_loop hn 1000 0 _ rfl (fun s hs => by omega) fun r z2 h1 h2 h3 => ?_
    have e1 : (r : Int) * (r : Int) = ((r * r : Nat) : Int) := by simp
    have hb : r * r ≤ 1000 * 1000 := Nat.mul_le_mul h1 h1
    have hiff : (((r * r : Nat) : Int) = (n : Int)) ↔ rt n * rt n = n := by
      constructor
      · intro e
        have : n = r * r := by omega
        rw [this, rt_sq (by omega)]
      · intro e
        have : rt n = r := by
          rcases Nat.lt_or_ge (rt n) r with h4 | h4
          · have := h3 _ h4; omega
          · have := Nat.mul_le_mul h4 h4
            have h5 : r * r = n := by omega
            rw [← h5, rt_sq (by omega)]
        rw [← this]; omega
    simp (disch := omega) only [WK_skip, WK_seq, WX_seq, WX_seq_exit, WX_seq_ret, WK_block, WX_block, WX_block_ret, WX_block_eq, WK_exit, WK_ret, WK_scope, WK_cond, WK_ops, WK_draw, WX_loop, WX_loop_exit, WX_loop_ret, WX_nil, WB_true, WB_false, WOs_nil, WDs_nil, WV_some, WA_some, WE_some, WDV_zero, WDE_none, putD_some, putD_none, WOs_g, WG_tt, WG_ff, WG_tf, WG_ft, WOs_mov, WOs_bin, WOs_un, WOs_pick, WOs_toInt, WOs_len, WOs_load, WOs_iaddr, WOs_indexS, WOs_extr, WOs_field, WOs_toStr, WOs_call, WOs_store, WOs_append, WOs_slice, WOs_mx, WOs_mn, WOs_build, WOs_bslice, WOs_mkslice, WOs_alloc, WOs_lenA, WDs_mov, WDs_bin, WDs_call, evalQ_mov, evalQ_bin, evalQ_un, evalQ_pick, evalQ_toInt, evalQ_len, evalQ_load, evalQ_iaddr, evalQ_indexS, evalQ_extr, evalQ_field, evalQ_mx, evalQ_mn, evalQ_lenA, evalE_fn, evalE_append, evs_cons, evs_nil, ev_tmp, ev_lit, nth_zero, nth_succ, put_zero, put_succ, pickV_tt, pickV_ff, extrV_0, extrV_1, extrV_2, mul_i64, e1, eql_int]
    refine ⟨(fun i hi => by cases hi), _, rfl, trivial, r, h1, ?_, fun e => ?_⟩
    · show AV.tup [.int .i64 (r : Int), .bool (decide (((r * r : Nat) : Int) = (n : Int)))] = _
      rw [decide_eq_decide.2 hiff]
    · have : r * r = n := by have := hiff.2 e; omega
      rw [← this, rt_sq (by omega)]
/-- the search: from x on, f numbers -/
def repF (m p : Nat) : Nat → Nat → Option (Nat × Nat)
  | 0, _ => none
  | f + 1, x => if x * x ≤ 4 * p then (if (4 * p - x * x) % m = 0 ∧ rt ((4 * p - x * x) / m) * rt ((4 * p - x * x) / m) = (4 * p - x * x) / m then some (x, rt ((4 * p - x * x) / m)) else repF m p f (x + 1)) else none
end Go.AM
