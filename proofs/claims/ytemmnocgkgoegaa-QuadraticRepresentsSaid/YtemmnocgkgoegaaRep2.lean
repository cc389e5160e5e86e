/- QuadraticRepresents: the searches, and what the law's code answers. No condition. -/
import Derived.Test.YtemmnocgkgoegaaRep
set_option maxRecDepth 100000
set_option linter.unusedSimpArgs false
namespace Go.AM
open Go
theorem hit_iff {rest m : Nat} (hm : 1 ≤ m) (hr : rest ≤ 1000000) : rt (rest / m) * rt (rest / m) * m = rest ↔ (rest % m = 0 ∧ rt (rest / m) * rt (rest / m) = rest / m) := by
  have hq : rest / m ≤ 1000000 := Nat.le_trans (Nat.div_le_self _ _) hr
  have h1 := (rt_ok hq).1
  generalize rt (rest / m) * rt (rest / m) = y at h1 ⊢
  have h2 := Nat.div_add_mod rest m
  constructor
  · intro e
    have h3 : y * m ≤ rest / m * m := Nat.mul_le_mul_right m h1
    rw [Nat.mul_comm (rest / m) m] at h3
    have h4 : rest % m = 0 := by omega
    refine ⟨h4, ?_⟩
    have h5 : y * m = rest / m * m := by rw [Nat.mul_comm (rest / m) m]; omega
    exact Nat.eq_of_mul_eq_mul_right (by omega) h5
  · rintro ⟨h3, h4⟩
    rw [h4, Nat.mul_comm]; omega
section
variable {K : List Fr} {Q : AX → St → Prop} {h : AHeap}
noncomputable def rrepB : ACode := match of30.body with | .seq _ (.seq (.seq _ (.block _ (.loop b))) _) => b | c => c
theorem rrep_loop {m p : Nat} (hm : 1 ≤ m) (hm2 : m ≤ 100000) (hp : p ≤ 100000) : ∀ (f x : Nat) (y3 y4 : AV), x + f = 1000 →
    (∀ a b : Nat, repF m p f x = some (a, b) → WX (lim otab.get I17) .ret K ⟨[.int .i64 (-(m : Int)), .int .i64 (p : Int), .int .i64 (a : Int), .int .i64 (b : Int), .bool true], h⟩ Q) →
    (repF m p f x = none → ∀ z2 z3 z4 : AV, WX (lim otab.get I17) (.exit 0) K ⟨[.int .i64 (-(m : Int)), .int .i64 (p : Int), z2, z3, z4], h⟩ Q) →
    WK (lim otab.get I17) (.loop rrepB) K ⟨[.int .i64 (-(m : Int)), .int .i64 (p : Int), .int .i64 (x : Int), y3, y4], h⟩ Q := by
  intro f
  induction f with
  | zero =>
    intro x y3 y4 hf hR hQ
    refine WK_loop' (by dsimp only [rrepB, of30]) ?_
    have hx : x = 1000 := by omega
    subst hx
    have e1 : ((1000 : Nat) : Int) * ((1000 : Nat) : Int) = 1000000 := by decide
    have e3 : ¬ (1000000 : Int) ≤ 4 * (p : Int) := by omega
    simp (disch := omega) only [WK_skip, WK_seq, WX_seq, WX_seq_exit, WX_seq_ret, WK_block, WX_block, WX_block_ret, WX_block_eq, WK_exit, WK_ret, WK_scope, WK_cond, WK_ops, WK_draw, WX_loop, WX_loop_exit, WX_loop_ret, WX_nil, WB_true, WB_false, WOs_nil, WDs_nil, WV_some, WA_some, WE_some, WDV_zero, WDE_none, putD_some, putD_none, WOs_g, WG_tt, WG_ff, WG_tf, WG_ft, WG_un, WOs_mov, WOs_bin, WOs_un, WOs_pick, WOs_toInt, WOs_len, WOs_load, WOs_iaddr, WOs_indexS, WOs_extr, WOs_field, WOs_toStr, WOs_call, WOs_store, WOs_append, WOs_slice, WOs_mx, WOs_mn, WOs_build, WOs_bslice, WOs_mkslice, WOs_alloc, WOs_lenA, WDs_mov, WDs_bin, WDs_call, evalQ_mov, evalQ_bin, evalQ_un, evalQ_pick, evalQ_toInt, evalQ_len, evalQ_load, evalQ_iaddr, evalQ_indexS, evalQ_extr, evalQ_field, evalQ_mx, evalQ_mn, evalQ_lenA, evalE_fn, evalE_append, evs_cons, evs_nil, ev_tmp, ev_lit, nth_zero, nth_succ, put_zero, put_succ, pickV_tt, pickV_ff, extrV_0, extrV_1, extrV_2, mul_i64, e1, leq_int, e3, decide_false]
    exact hQ rfl _ _ _
  | succ f ih =>
    intro x y3 y4 hf hR hQ
    refine WK_loop' (by dsimp only [rrepB, of30]) ?_
    have e1 : (x : Int) * (x : Int) = ((x * x : Nat) : Int) := by simp
    have hb : x * x ≤ 1000 * 1000 := Nat.mul_le_mul (by omega) (by omega)
    unfold repF at hR hQ
    by_cases e : x * x ≤ 4 * p
    · have e3 : ((x * x : Nat) : Int) ≤ 4 * (p : Int) := by omega
      rw [if_pos e] at hR hQ
      have e4 : 4 * (p : Int) - ((x * x : Nat) : Int) = ((4 * p - x * x : Nat) : Int) := by omega
      have hrest : 4 * p - x * x ≤ 400000 := by omega
      generalize 4 * p - x * x = rest at hrest hR hQ e4
      have e5 : ((rest : Nat) : Int) / (m : Int) = ((rest / m : Nat) : Int) := by simp
      have e6 : ((rest : Nat) : Int) % (m : Int) = ((rest % m : Nat) : Int) := by simp
      have hq : rest / m ≤ rest := Nat.div_le_self _ _
      by_cases e8 : rest % m = 0
      · have e9 : ¬ ((rest % m : Nat) : Int) ≠ 0 := by omega
        obtain ⟨r, r1, r2, r3⟩ := sqr_lim (n := rest / m) (by omega) h
        simp (disch := omega) only [WK_skip, WK_seq, WX_seq, WX_seq_exit, WX_seq_ret, WK_block, WX_block, WX_block_ret, WX_block_eq, WK_exit, WK_ret, WK_scope, WK_cond, WK_ops, WK_draw, WX_loop, WX_loop_exit, WX_loop_ret, WX_nil, WB_true, WB_false, WOs_nil, WDs_nil, WV_some, WA_some, WE_some, WDV_zero, WDE_none, putD_some, putD_none, WOs_g, WG_tt, WG_ff, WG_tf, WG_ft, WG_un, WOs_mov, WOs_bin, WOs_un, WOs_pick, WOs_toInt, WOs_len, WOs_load, WOs_iaddr, WOs_indexS, WOs_extr, WOs_field, WOs_toStr, WOs_call, WOs_store, WOs_append, WOs_slice, WOs_mx, WOs_mn, WOs_build, WOs_bslice, WOs_mkslice, WOs_alloc, WOs_lenA, WDs_mov, WDs_bin, WDs_call, evalQ_mov, evalQ_bin, evalQ_un, evalQ_pick, evalQ_toInt, evalQ_len, evalQ_load, evalQ_iaddr, evalQ_indexS, evalQ_extr, evalQ_field, evalQ_mx, evalQ_mn, evalQ_lenA, evalE_fn, evalE_append, evs_cons, evs_nil, ev_tmp, ev_lit, nth_zero, nth_succ, put_zero, put_succ, pickV_tt, pickV_ff, extrV_0, extrV_1, extrV_2, mul_i64, e1, leq_int, e3, decide_true, decide_false, sub_i64, e4, neg_i64, Int.neg_neg, rem_pos, e6, neq_int, e9, quo_pos, e5, r2]
        by_cases e10 : rt (rest / m) * rt (rest / m) = rest / m
        · rw [if_pos ⟨e8, e10⟩] at hR
          rw [r3 e10]
          simp only [e10, decide_true, WK_skip, WK_seq, WX_seq, WX_seq_exit, WX_seq_ret, WK_block, WX_block, WX_block_ret, WX_block_eq, WK_exit, WK_ret, WK_scope, WK_cond, WK_ops, WK_draw, WX_loop, WX_loop_exit, WX_loop_ret, WX_nil, WB_true, WB_false, WOs_nil, WDs_nil, WV_some, WA_some, WE_some, WDV_zero, WDE_none, putD_some, putD_none, WOs_g, WG_tt, WG_ff, WG_tf, WG_ft, WG_un, WOs_mov, WOs_bin, WOs_un, WOs_pick, WOs_toInt, WOs_len, WOs_load, WOs_iaddr, WOs_indexS, WOs_extr, WOs_field, WOs_toStr, WOs_call, WOs_store, WOs_append, WOs_slice, WOs_mx, WOs_mn, WOs_build, WOs_bslice, WOs_mkslice, WOs_alloc, WOs_lenA, WDs_mov, WDs_bin, WDs_call, evalQ_mov, evalQ_bin, evalQ_un, evalQ_pick, evalQ_toInt, evalQ_len, evalQ_load, evalQ_iaddr, evalQ_indexS, evalQ_extr, evalQ_field, evalQ_mx, evalQ_mn, evalQ_lenA, evalE_fn, evalE_append, evs_cons, evs_nil, ev_tmp, ev_lit, nth_zero, nth_succ, put_zero, put_succ, pickV_tt, pickV_ff, extrV_0, extrV_1, extrV_2]
          exact hR _ _ rfl
        · rw [if_neg (fun hh => e10 hh.2)] at hR hQ
          simp (disch := omega) only [e10, decide_false, WK_skip, WK_seq, WX_seq, WX_seq_exit, WX_seq_ret, WK_block, WX_block, WX_block_ret, WX_block_eq, WK_exit, WK_ret, WK_scope, WK_cond, WK_ops, WK_draw, WX_loop, WX_loop_exit, WX_loop_ret, WX_nil, WB_true, WB_false, WOs_nil, WDs_nil, WV_some, WA_some, WE_some, WDV_zero, WDE_none, putD_some, putD_none, WOs_g, WG_tt, WG_ff, WG_tf, WG_ft, WG_un, WOs_mov, WOs_bin, WOs_un, WOs_pick, WOs_toInt, WOs_len, WOs_load, WOs_iaddr, WOs_indexS, WOs_extr, WOs_field, WOs_toStr, WOs_call, WOs_store, WOs_append, WOs_slice, WOs_mx, WOs_mn, WOs_build, WOs_bslice, WOs_mkslice, WOs_alloc, WOs_lenA, WDs_mov, WDs_bin, WDs_call, evalQ_mov, evalQ_bin, evalQ_un, evalQ_pick, evalQ_toInt, evalQ_len, evalQ_load, evalQ_iaddr, evalQ_indexS, evalQ_extr, evalQ_field, evalQ_mx, evalQ_mn, evalQ_lenA, evalE_fn, evalE_append, evs_cons, evs_nil, ev_tmp, ev_lit, nth_zero, nth_succ, put_zero, put_succ, pickV_tt, pickV_ff, extrV_0, extrV_1, extrV_2, add_i64, show (x : Int) + 1 = ((x + 1 : Nat) : Int) from rfl]
          exact ih (x + 1) _ _ (by omega) hR hQ
      · have e9 : (((rest % m : Nat) : Int) ≠ 0) = True := eq_true (by omega)
        rw [if_neg (fun hh => e8 hh.1)] at hR hQ
        simp (disch := omega) only [WK_skip, WK_seq, WX_seq, WX_seq_exit, WX_seq_ret, WK_block, WX_block, WX_block_ret, WX_block_eq, WK_exit, WK_ret, WK_scope, WK_cond, WK_ops, WK_draw, WX_loop, WX_loop_exit, WX_loop_ret, WX_nil, WB_true, WB_false, WOs_nil, WDs_nil, WV_some, WA_some, WE_some, WDV_zero, WDE_none, putD_some, putD_none, WOs_g, WG_tt, WG_ff, WG_tf, WG_ft, WG_un, WOs_mov, WOs_bin, WOs_un, WOs_pick, WOs_toInt, WOs_len, WOs_load, WOs_iaddr, WOs_indexS, WOs_extr, WOs_field, WOs_toStr, WOs_call, WOs_store, WOs_append, WOs_slice, WOs_mx, WOs_mn, WOs_build, WOs_bslice, WOs_mkslice, WOs_alloc, WOs_lenA, WDs_mov, WDs_bin, WDs_call, evalQ_mov, evalQ_bin, evalQ_un, evalQ_pick, evalQ_toInt, evalQ_len, evalQ_load, evalQ_iaddr, evalQ_indexS, evalQ_extr, evalQ_field, evalQ_mx, evalQ_mn, evalQ_lenA, evalE_fn, evalE_append, evs_cons, evs_nil, ev_tmp, ev_lit, nth_zero, nth_succ, put_zero, put_succ, pickV_tt, pickV_ff, extrV_0, extrV_1, extrV_2, mul_i64, e1, leq_int, e3, decide_true, decide_false, sub_i64, e4, neg_i64, Int.neg_neg, rem_pos, e6, neq_int, e9, add_i64, show (x : Int) + 1 = ((x + 1 : Nat) : Int) from rfl]
        exact ih (x + 1) _ _ (by omega) hR hQ
    · have e3 : ¬ ((x * x : Nat) : Int) ≤ 4 * (p : Int) := by omega
      rw [if_neg e] at hQ
      simp (disch := omega) only [WK_skip, WK_seq, WX_seq, WX_seq_exit, WX_seq_ret, WK_block, WX_block, WX_block_ret, WX_block_eq, WK_exit, WK_ret, WK_scope, WK_cond, WK_ops, WK_draw, WX_loop, WX_loop_exit, WX_loop_ret, WX_nil, WB_true, WB_false, WOs_nil, WDs_nil, WV_some, WA_some, WE_some, WDV_zero, WDE_none, putD_some, putD_none, WOs_g, WG_tt, WG_ff, WG_tf, WG_ft, WG_un, WOs_mov, WOs_bin, WOs_un, WOs_pick, WOs_toInt, WOs_len, WOs_load, WOs_iaddr, WOs_indexS, WOs_extr, WOs_field, WOs_toStr, WOs_call, WOs_store, WOs_append, WOs_slice, WOs_mx, WOs_mn, WOs_build, WOs_bslice, WOs_mkslice, WOs_alloc, WOs_lenA, WDs_mov, WDs_bin, WDs_call, evalQ_mov, evalQ_bin, evalQ_un, evalQ_pick, evalQ_toInt, evalQ_len, evalQ_load, evalQ_iaddr, evalQ_indexS, evalQ_extr, evalQ_field, evalQ_mx, evalQ_mn, evalQ_lenA, evalE_fn, evalE_append, evs_cons, evs_nil, ev_tmp, ev_lit, nth_zero, nth_succ, put_zero, put_succ, pickV_tt, pickV_ff, extrV_0, extrV_1, extrV_2, mul_i64, e1, leq_int, e3, decide_false]
      exact hQ rfl _ _ _
end
/-- the reference's Represent -/
def rrepS : List AV → Option AV
  | [.int .i64 d, .int .i64 p] => if -100000 ≤ d ∧ d < 0 ∧ 1 ≤ p ∧ p ≤ 100000 then some (match repF (-d).toNat p.toNat 1000 0 with
    | some (a, b) => .tup [.int .i64 (a : Int), .int .i64 (b : Int), .bool true]
    | none => .tup [.int .i64 0, .int .i64 0, .bool false]) else none
  | _ => none
theorem rrep_run {m p : Nat} (hm : 1 ≤ m) (hm2 : m ≤ 100000) (hp : p ≤ 100000) : ∃ h', lim otab.get I17 (.fn 30) [.int .i64 (-(m : Int)), .int .i64 (p : Int)] .empty = some (match repF m p 1000 0 with
    | some (a, b) => .tup [.int .i64 (a : Int), .int .i64 (b : Int), .bool true]
    | none => .tup [.int .i64 0, .int .i64 0, .bool false], h') := by
  refine run_of (fn := of30) rfl rfl ?_
  show WK _ _ [] ⟨[.int .i64 (-(m : Int)), .int .i64 (p : Int), aundef, aundef, aundef], .empty⟩ _
  dsimp only [of30]
  simp only [WK_skip, WK_seq, WX_seq, WX_seq_exit, WX_seq_ret, WK_block, WX_block, WX_block_ret, WX_block_eq, WK_exit, WK_ret, WK_scope, WK_cond, WK_ops, WK_draw, WX_loop, WX_loop_exit, WX_loop_ret, WX_nil, WB_true, WB_false, WOs_nil, WDs_nil, WV_some, WA_some, WE_some, WDV_zero, WDE_none, putD_some, putD_none, WOs_g, WG_tt, WG_ff, WG_tf, WG_ft, WG_un, WOs_mov, WOs_bin, WOs_un, WOs_pick, WOs_toInt, WOs_len, WOs_load, WOs_iaddr, WOs_indexS, WOs_extr, WOs_field, WOs_toStr, WOs_call, WOs_store, WOs_append, WOs_slice, WOs_mx, WOs_mn, WOs_build, WOs_bslice, WOs_mkslice, WOs_alloc, WOs_lenA, WDs_mov, WDs_bin, WDs_call, evalQ_mov, evalQ_bin, evalQ_un, evalQ_pick, evalQ_toInt, evalQ_len, evalQ_load, evalQ_iaddr, evalQ_indexS, evalQ_extr, evalQ_field, evalQ_mx, evalQ_mn, evalQ_lenA, evalE_fn, evalE_append, evs_cons, evs_nil, ev_tmp, ev_lit, nth_zero, nth_succ, put_zero, put_succ, pickV_tt, pickV_ff, extrV_0, extrV_1, extrV_2]
  refine rrep_loop hm hm2 hp 1000 0 _ _ rfl (fun a b e => ?_) (fun e z2 z3 z4 => ?_)
  · simp only [WK_skip, WK_seq, WX_seq, WX_seq_exit, WX_seq_ret, WK_block, WX_block, WX_block_ret, WX_block_eq, WK_exit, WK_ret, WK_scope, WK_cond, WK_ops, WK_draw, WX_loop, WX_loop_exit, WX_loop_ret, WX_nil, WB_true, WB_false, WOs_nil, WDs_nil, WV_some, WA_some, WE_some, WDV_zero, WDE_none, putD_some, putD_none, WOs_g, WG_tt, WG_ff, WG_tf, WG_ft, WG_un, WOs_mov, WOs_bin, WOs_un, WOs_pick, WOs_toInt, WOs_len, WOs_load, WOs_iaddr, WOs_indexS, WOs_extr, WOs_field, WOs_toStr, WOs_call, WOs_store, WOs_append, WOs_slice, WOs_mx, WOs_mn, WOs_build, WOs_bslice, WOs_mkslice, WOs_alloc, WOs_lenA, WDs_mov, WDs_bin, WDs_call, evalQ_mov, evalQ_bin, evalQ_un, evalQ_pick, evalQ_toInt, evalQ_len, evalQ_load, evalQ_iaddr, evalQ_indexS, evalQ_extr, evalQ_field, evalQ_mx, evalQ_mn, evalQ_lenA, evalE_fn, evalE_append, evs_cons, evs_nil, ev_tmp, ev_lit, nth_zero, nth_succ, put_zero, put_succ, pickV_tt, pickV_ff, extrV_0, extrV_1, extrV_2, Ret_ret, result_3, e]
  · simp only [WK_skip, WK_seq, WX_seq, WX_seq_exit, WX_seq_ret, WK_block, WX_block, WX_block_ret, WX_block_eq, WK_exit, WK_ret, WK_scope, WK_cond, WK_ops, WK_draw, WX_loop, WX_loop_exit, WX_loop_ret, WX_nil, WB_true, WB_false, WOs_nil, WDs_nil, WV_some, WA_some, WE_some, WDV_zero, WDE_none, putD_some, putD_none, WOs_g, WG_tt, WG_ff, WG_tf, WG_ft, WG_un, WOs_mov, WOs_bin, WOs_un, WOs_pick, WOs_toInt, WOs_len, WOs_load, WOs_iaddr, WOs_indexS, WOs_extr, WOs_field, WOs_toStr, WOs_call, WOs_store, WOs_append, WOs_slice, WOs_mx, WOs_mn, WOs_build, WOs_bslice, WOs_mkslice, WOs_alloc, WOs_lenA, WDs_mov, WDs_bin, WDs_call, evalQ_mov, evalQ_bin, evalQ_un, evalQ_pick, evalQ_toInt, evalQ_len, evalQ_load, evalQ_iaddr, evalQ_indexS, evalQ_extr, evalQ_field, evalQ_mx, evalQ_mn, evalQ_lenA, evalE_fn, evalE_append, evs_cons, evs_nil, ev_tmp, ev_lit, nth_zero, nth_succ, put_zero, put_succ, pickV_tt, pickV_ff, extrV_0, extrV_1, extrV_2, Ret_ret, result_3, e]
noncomputable def I18 : Oracle := ext I17 30 rrepS
theorem I18_ok : IOK Go.Proofs.Try.prog I18 := IOK.extL mixed tabOK otabOK I17_ok (g := 30) (fn := af30) rfl fun args av h => by
  unfold rrepS at h
  split at h
  · split at h
    · rename_i d p hn
      cases h
      refine ⟨rfl, ?_, ?_⟩
      · split <;> rfl
      · have e1 : d = -(((-d).toNat : Nat) : Int) := by omega
        have e2 : p = ((p.toNat : Nat) : Int) := by omega
        have := rrep_run (m := (-d).toNat) (p := p.toNat) (by omega) (by omega) (by omega)
        rw [← e1, ← e2] at this
        exact this
    · cases h
  · cases h
section
variable {K : List Fr} {Q : AX → St → Prop} {h : AHeap}
theorem c_root18 {n : Nat} (hn : n ≤ 1000000) : lim otab.get I18 (.fn 62) [.int .i64 (n : Int)] h = some (.int .i64 (rt n : Int), h) :=
  lim_oracle (or_hit (spec := rootS) (if_pos ⟨by omega, by omega⟩))
noncomputable def repB : ACode := match of28.body with | .seq _ (.seq _ (.seq _ (.seq _ (.seq _ (.seq (.seq _ (.block _ (.loop b))) _))))) => b | c => c
theorem rep_loop {m p : Nat} (hm : 1 ≤ m) (hm2 : m ≤ 100000) (hp : p ≤ 100000) : ∀ (f x : Nat) (y3 y4 y5 y6 : AV), x + f = 1000 →
    (∀ a b : Nat, repF m p f x = some (a, b) → ∀ z5 z6 : AV, WX (lim otab.get I18) .ret K ⟨[.int .i64 (-(m : Int)), .int .i64 (p : Int), .int .i64 (a : Int), .int .i64 (b : Int), .int .i64 0, z5, z6], h⟩ Q) →
    (repF m p f x = none → ∀ z2 z3 z4 z5 z6 : AV, WX (lim otab.get I18) (.exit 0) K ⟨[.int .i64 (-(m : Int)), .int .i64 (p : Int), z2, z3, z4, z5, z6], h⟩ Q) →
    WK (lim otab.get I18) (.loop repB) K ⟨[.int .i64 (-(m : Int)), .int .i64 (p : Int), .int .i64 (x : Int), y3, y4, y5, y6], h⟩ Q := by
  intro f
  induction f with
  | zero =>
    intro x y3 y4 y5 y6 hf hR hQ
    refine WK_loop' (by dsimp only [repB, of28]) ?_
    have hx : x = 1000 := by omega
    subst hx
    have e1 : ((1000 : Nat) : Int) * ((1000 : Nat) : Int) = 1000000 := by decide
    have e3 : ¬ (1000000 : Int) ≤ 4 * (p : Int) := by omega
    simp (disch := omega) only [WK_skip, WK_seq, WX_seq, WX_seq_exit, WX_seq_ret, WK_block, WX_block, WX_block_ret, WX_block_eq, WK_exit, WK_ret, WK_scope, WK_cond, WK_ops, WK_draw, WX_loop, WX_loop_exit, WX_loop_ret, WX_nil, WB_true, WB_false, WOs_nil, WDs_nil, WV_some, WA_some, WE_some, WDV_zero, WDE_none, putD_some, putD_none, WOs_g, WG_tt, WG_ff, WG_tf, WG_ft, WG_un, WOs_mov, WOs_bin, WOs_un, WOs_pick, WOs_toInt, WOs_len, WOs_load, WOs_iaddr, WOs_indexS, WOs_extr, WOs_field, WOs_toStr, WOs_call, WOs_store, WOs_append, WOs_slice, WOs_mx, WOs_mn, WOs_build, WOs_bslice, WOs_mkslice, WOs_alloc, WOs_lenA, WDs_mov, WDs_bin, WDs_call, evalQ_mov, evalQ_bin, evalQ_un, evalQ_pick, evalQ_toInt, evalQ_len, evalQ_load, evalQ_iaddr, evalQ_indexS, evalQ_extr, evalQ_field, evalQ_mx, evalQ_mn, evalQ_lenA, evalE_fn, evalE_append, evs_cons, evs_nil, ev_tmp, ev_lit, nth_zero, nth_succ, put_zero, put_succ, pickV_tt, pickV_ff, extrV_0, extrV_1, extrV_2, mul_i64, e1, leq_int, e3, decide_false]
    exact hQ rfl _ _ _ _ _
  | succ f ih =>
    intro x y3 y4 y5 y6 hf hR hQ
    refine WK_loop' (by dsimp only [repB, of28]) ?_
    have e1 : (x : Int) * (x : Int) = ((x * x : Nat) : Int) := by simp
    have hb : x * x ≤ 1000 * 1000 := Nat.mul_le_mul (by omega) (by omega)
    unfold repF at hR hQ
    by_cases e : x * x ≤ 4 * p
    · have e3 : ((x * x : Nat) : Int) ≤ 4 * (p : Int) := by omega
      rw [if_pos e] at hR hQ
      have e4 : 4 * (p : Int) - ((x * x : Nat) : Int) = ((4 * p - x * x : Nat) : Int) := by omega
      have hrest : 4 * p - x * x ≤ 400000 := by omega
      generalize 4 * p - x * x = rest at hrest hR hQ e4
      have e5 : ((rest : Nat) : Int) / (m : Int) = ((rest / m : Nat) : Int) := by simp
      have hq : rest / m ≤ rest := Nat.div_le_self _ _
      have hy := rt_le (n := rest / m) (by omega)
      have hy2 : rt (rest / m) * rt (rest / m) ≤ 1000 * 1000 := Nat.mul_le_mul hy hy
      have hy3 : rt (rest / m) * rt (rest / m) * m ≤ 1000 * 1000 * 100000 := Nat.mul_le_mul hy2 hm2
      have e6 : (rt (rest / m) : Int) * (rt (rest / m) : Int) = ((rt (rest / m) * rt (rest / m) : Nat) : Int) := by simp
      have e7 : ((rt (rest / m) * rt (rest / m) : Nat) : Int) * (m : Int) = ((rt (rest / m) * rt (rest / m) * m : Nat) : Int) := by simp
      have hit := hit_iff hm (show rest ≤ 1000000 by omega)
      by_cases e8 : rt (rest / m) * rt (rest / m) * m = rest
      · rw [if_pos (hit.1 e8)] at hR
        have e9 : ((rt (rest / m) * rt (rest / m) * m : Nat) : Int) = (rest : Int) := by omega
        simp (disch := omega) only [WK_skip, WK_seq, WX_seq, WX_seq_exit, WX_seq_ret, WK_block, WX_block, WX_block_ret, WX_block_eq, WK_exit, WK_ret, WK_scope, WK_cond, WK_ops, WK_draw, WX_loop, WX_loop_exit, WX_loop_ret, WX_nil, WB_true, WB_false, WOs_nil, WDs_nil, WV_some, WA_some, WE_some, WDV_zero, WDE_none, putD_some, putD_none, WOs_g, WG_tt, WG_ff, WG_tf, WG_ft, WG_un, WOs_mov, WOs_bin, WOs_un, WOs_pick, WOs_toInt, WOs_len, WOs_load, WOs_iaddr, WOs_indexS, WOs_extr, WOs_field, WOs_toStr, WOs_call, WOs_store, WOs_append, WOs_slice, WOs_mx, WOs_mn, WOs_build, WOs_bslice, WOs_mkslice, WOs_alloc, WOs_lenA, WDs_mov, WDs_bin, WDs_call, evalQ_mov, evalQ_bin, evalQ_un, evalQ_pick, evalQ_toInt, evalQ_len, evalQ_load, evalQ_iaddr, evalQ_indexS, evalQ_extr, evalQ_field, evalQ_mx, evalQ_mn, evalQ_lenA, evalE_fn, evalE_append, evs_cons, evs_nil, ev_tmp, ev_lit, nth_zero, nth_succ, put_zero, put_succ, pickV_tt, pickV_ff, extrV_0, extrV_1, extrV_2, mul_i64, e1, leq_int, e3, decide_true, sub_i64, e4, neg_i64, Int.neg_neg, quo_pos, e5, c_root18, e6, e7, eql_int, e9]
        exact hR _ _ rfl _ _
      · rw [if_neg (fun hh => e8 (hit.2 hh))] at hR hQ
        have e9 : ¬ ((rt (rest / m) * rt (rest / m) * m : Nat) : Int) = (rest : Int) := by omega
        simp (disch := omega) only [WK_skip, WK_seq, WX_seq, WX_seq_exit, WX_seq_ret, WK_block, WX_block, WX_block_ret, WX_block_eq, WK_exit, WK_ret, WK_scope, WK_cond, WK_ops, WK_draw, WX_loop, WX_loop_exit, WX_loop_ret, WX_nil, WB_true, WB_false, WOs_nil, WDs_nil, WV_some, WA_some, WE_some, WDV_zero, WDE_none, putD_some, putD_none, WOs_g, WG_tt, WG_ff, WG_tf, WG_ft, WG_un, WOs_mov, WOs_bin, WOs_un, WOs_pick, WOs_toInt, WOs_len, WOs_load, WOs_iaddr, WOs_indexS, WOs_extr, WOs_field, WOs_toStr, WOs_call, WOs_store, WOs_append, WOs_slice, WOs_mx, WOs_mn, WOs_build, WOs_bslice, WOs_mkslice, WOs_alloc, WOs_lenA, WDs_mov, WDs_bin, WDs_call, evalQ_mov, evalQ_bin, evalQ_un, evalQ_pick, evalQ_toInt, evalQ_len, evalQ_load, evalQ_iaddr, evalQ_indexS, evalQ_extr, evalQ_field, evalQ_mx, evalQ_mn, evalQ_lenA, evalE_fn, evalE_append, evs_cons, evs_nil, ev_tmp, ev_lit, nth_zero, nth_succ, put_zero, put_succ, pickV_tt, pickV_ff, extrV_0, extrV_1, extrV_2, mul_i64, e1, leq_int, e3, decide_true, decide_false, sub_i64, e4, neg_i64, Int.neg_neg, quo_pos, e5, c_root18, e6, e7, eql_int, e9, add_i64, show (x : Int) + 1 = ((x + 1 : Nat) : Int) from rfl]
        exact ih (x + 1) _ _ _ _ (by omega) hR hQ
    · have e3 : ¬ ((x * x : Nat) : Int) ≤ 4 * (p : Int) := by omega
      rw [if_neg e] at hQ
      simp (disch := omega) only [WK_skip, WK_seq, WX_seq, WX_seq_exit, WX_seq_ret, WK_block, WX_block, WX_block_ret, WX_block_eq, WK_exit, WK_ret, WK_scope, WK_cond, WK_ops, WK_draw, WX_loop, WX_loop_exit, WX_loop_ret, WX_nil, WB_true, WB_false, WOs_nil, WDs_nil, WV_some, WA_some, WE_some, WDV_zero, WDE_none, putD_some, putD_none, WOs_g, WG_tt, WG_ff, WG_tf, WG_ft, WG_un, WOs_mov, WOs_bin, WOs_un, WOs_pick, WOs_toInt, WOs_len, WOs_load, WOs_iaddr, WOs_indexS, WOs_extr, WOs_field, WOs_toStr, WOs_call, WOs_store, WOs_append, WOs_slice, WOs_mx, WOs_mn, WOs_build, WOs_bslice, WOs_mkslice, WOs_alloc, WOs_lenA, WDs_mov, WDs_bin, WDs_call, evalQ_mov, evalQ_bin, evalQ_un, evalQ_pick, evalQ_toInt, evalQ_len, evalQ_load, evalQ_iaddr, evalQ_indexS, evalQ_extr, evalQ_field, evalQ_mx, evalQ_mn, evalQ_lenA, evalE_fn, evalE_append, evs_cons, evs_nil, ev_tmp, ev_lit, nth_zero, nth_succ, put_zero, put_succ, pickV_tt, pickV_ff, extrV_0, extrV_1, extrV_2, mul_i64, e1, leq_int, e3, decide_false]
      exact hQ rfl _ _ _ _ _
end
/-- Represent -/
noncomputable def repV (d p : Int) : AV := if bd [d, p] = 0 then (if 0 ≤ d ∨ ¬ fundP d then .tup [.int .i64 0, .int .i64 0, .int .i64 3] else if prE p = 0 then (match repF (-d).toNat p.toNat 1000 0 with
    | some (a, b) => .tup [.int .i64 (a : Int), .int .i64 (b : Int), .int .i64 0]
    | none => .tup [.int .i64 0, .int .i64 0, .int .i64 10]) else .tup [.int .i64 0, .int .i64 0, .int .i64 7]) else .tup [.int .i64 0, .int .i64 0, .int .i64 4]
theorem bd_two {d p : Int} (h : bd [d, p] = 0) : lg d = 0 ∧ lg p = 0 := by
  simp only [bd] at h
  rcases lg_cases d with ⟨h1, _⟩ | ⟨h1, _⟩
  · rcases lg_cases p with ⟨h2, _⟩ | ⟨h2, _⟩
    · exact ⟨h1, h2⟩
    · simp [h1, h2] at h
  · simp [h1] at h
theorem prE_cases (n : Int) : (prE n = 0 ∧ 1 ≤ n ∧ isPB n.toNat = true) ∨ (prE n = 7 ∧ ¬ (1 ≤ n ∧ isPB n.toNat = true)) := by
  unfold prE
  by_cases h : 1 ≤ n ∧ isPB n.toNat = true
  · rw [if_pos h]; exact .inl ⟨rfl, h⟩
  · rw [if_neg h]; exact .inr ⟨rfl, h⟩
noncomputable def repS : List AV → Option AV
  | [.int .i64 d, .int .i64 p] => some (repV d p)
  | _ => none
theorem rep_run (d p : Int) : ∃ h', lim otab.get I18 (.fn 28) [.int .i64 d, .int .i64 p] .empty = some (repV d p, h') := by
  refine run_of (fn := of28) rfl rfl ?_
  show WK _ _ [] ⟨[.int .i64 d, .int .i64 p, aundef, aundef, aundef, aundef, aundef], .empty⟩ _
  dsimp only [of28]
  have hI : ∀ a h, I18 39 a h = none := fun _ _ => rfl
  simp only [WK_skip, WK_seq, WX_seq, WX_seq_exit, WX_seq_ret, WK_block, WX_block, WX_block_ret, WX_block_eq, WK_exit, WK_ret, WK_scope, WK_cond, WK_ops, WK_draw, WX_loop, WX_loop_exit, WX_loop_ret, WX_nil, WB_true, WB_false, WOs_nil, WDs_nil, WV_some, WA_some, WE_some, WDV_zero, WDE_none, putD_some, putD_none, WOs_g, WG_tt, WG_ff, WG_tf, WG_ft, WG_un, WOs_mov, WOs_bin, WOs_un, WOs_pick, WOs_toInt, WOs_len, WOs_load, WOs_iaddr, WOs_indexS, WOs_extr, WOs_field, WOs_toStr, WOs_call, WOs_store, WOs_append, WOs_slice, WOs_mx, WOs_mn, WOs_build, WOs_bslice, WOs_mkslice, WOs_alloc, WOs_lenA, WDs_mov, WDs_bin, WDs_call, evalQ_mov, evalQ_bin, evalQ_un, evalQ_pick, evalQ_toInt, evalQ_len, evalQ_load, evalQ_iaddr, evalQ_indexS, evalQ_extr, evalQ_field, evalQ_mx, evalQ_mn, evalQ_lenA, evalE_fn, evalE_append, evs_cons, evs_nil, ev_tmp, ev_lit, nth_zero, nth_succ, put_zero, put_succ, pickV_tt, pickV_ff, extrV_0, extrV_1, extrV_2]
  rw [bslice2 (v := .int .i64 d) (w := .int .i64 p) rfl rfl rfl rfl]
  simp only [WK_skip, WK_seq, WX_seq, WX_seq_exit, WX_seq_ret, WK_block, WX_block, WX_block_ret, WX_block_eq, WK_exit, WK_ret, WK_scope, WK_cond, WK_ops, WK_draw, WX_loop, WX_loop_exit, WX_loop_ret, WX_nil, WB_true, WB_false, WOs_nil, WDs_nil, WV_some, WA_some, WE_some, WDV_zero, WDE_none, putD_some, putD_none, WOs_g, WG_tt, WG_ff, WG_tf, WG_ft, WG_un, WOs_mov, WOs_bin, WOs_un, WOs_pick, WOs_toInt, WOs_len, WOs_load, WOs_iaddr, WOs_indexS, WOs_extr, WOs_field, WOs_toStr, WOs_call, WOs_store, WOs_append, WOs_slice, WOs_mx, WOs_mn, WOs_build, WOs_bslice, WOs_mkslice, WOs_alloc, WOs_lenA, WDs_mov, WDs_bin, WDs_call, evalQ_mov, evalQ_bin, evalQ_un, evalQ_pick, evalQ_toInt, evalQ_len, evalQ_load, evalQ_iaddr, evalQ_indexS, evalQ_extr, evalQ_field, evalQ_mx, evalQ_mn, evalQ_lenA, evalE_fn, evalE_append, evs_cons, evs_nil, ev_tmp, ev_lit, nth_zero, nth_succ, put_zero, put_succ, pickV_tt, pickV_ff, extrV_0, extrV_1, extrV_2, bounded_2e hI, eql_int]
  unfold repV
  rcases bd_cases [d, p] with hb | hb
  · obtain ⟨l1, l2⟩ := bd_two hb
    rcases lg_cases d with ⟨_, d1, d2⟩ | ⟨l, _⟩
    · rcases lg_cases p with ⟨_, p1, p2⟩ | ⟨l, _⟩
      · have cf : ∀ h, lim otab.get I18 (.fn 42) [.int .i64 d] h = some (.bool (decide (fundP d)), h) := fun h => lim_oracle (or_hit (spec := fundS) (if_pos ⟨d1, d2⟩))
        have cp : ∀ h, lim otab.get I18 (.fn 61) [.int .i64 p] h = some (.int .i64 (prE p), h) := fun h => lim_oracle (or_hit (spec := qprimeS) (if_pos ⟨p1, p2⟩))
        by_cases hd : 0 ≤ d
        · simp only [hb, if_true, hd, true_or, WK_skip, WK_seq, WX_seq, WX_seq_exit, WX_seq_ret, WK_block, WX_block, WX_block_ret, WX_block_eq, WK_exit, WK_ret, WK_scope, WK_cond, WK_ops, WK_draw, WX_loop, WX_loop_exit, WX_loop_ret, WX_nil, WB_true, WB_false, WOs_nil, WDs_nil, WV_some, WA_some, WE_some, WDV_zero, WDE_none, putD_some, putD_none, WOs_g, WG_tt, WG_ff, WG_tf, WG_ft, WG_un, WOs_mov, WOs_bin, WOs_un, WOs_pick, WOs_toInt, WOs_len, WOs_load, WOs_iaddr, WOs_indexS, WOs_extr, WOs_field, WOs_toStr, WOs_call, WOs_store, WOs_append, WOs_slice, WOs_mx, WOs_mn, WOs_build, WOs_bslice, WOs_mkslice, WOs_alloc, WOs_lenA, WDs_mov, WDs_bin, WDs_call, evalQ_mov, evalQ_bin, evalQ_un, evalQ_pick, evalQ_toInt, evalQ_len, evalQ_load, evalQ_iaddr, evalQ_indexS, evalQ_extr, evalQ_field, evalQ_mx, evalQ_mn, evalQ_lenA, evalE_fn, evalE_append, evs_cons, evs_nil, ev_tmp, ev_lit, nth_zero, nth_succ, put_zero, put_succ, pickV_tt, pickV_ff, extrV_0, extrV_1, extrV_2, eql_int, neq_int, geq_int, decide_true, decide_false, ne_eq, not_false_eq_true, show ((3 : Int) = 0) = False from by simp, Ret_ret, result_3]
        · by_cases hf : fundP d
          · rcases prE_cases p with ⟨q1, q2, q3⟩ | ⟨q1, q2⟩
            · obtain ⟨m, hm⟩ : ∃ m : Nat, d = -(m : Int) := ⟨(-d).toNat, by omega⟩
              obtain ⟨n, hn⟩ : ∃ n : Nat, p = (n : Int) := ⟨p.toNat, by omega⟩
              subst hm; subst hn
              simp only [hb, if_true, hd, hf, WK_skip, WK_seq, WX_seq, WX_seq_exit, WX_seq_ret, WK_block, WX_block, WX_block_ret, WX_block_eq, WK_exit, WK_ret, WK_scope, WK_cond, WK_ops, WK_draw, WX_loop, WX_loop_exit, WX_loop_ret, WX_nil, WB_true, WB_false, WOs_nil, WDs_nil, WV_some, WA_some, WE_some, WDV_zero, WDE_none, putD_some, putD_none, WOs_g, WG_tt, WG_ff, WG_tf, WG_ft, WG_un, WOs_mov, WOs_bin, WOs_un, WOs_pick, WOs_toInt, WOs_len, WOs_load, WOs_iaddr, WOs_indexS, WOs_extr, WOs_field, WOs_toStr, WOs_call, WOs_store, WOs_append, WOs_slice, WOs_mx, WOs_mn, WOs_build, WOs_bslice, WOs_mkslice, WOs_alloc, WOs_lenA, WDs_mov, WDs_bin, WDs_call, evalQ_mov, evalQ_bin, evalQ_un, evalQ_pick, evalQ_toInt, evalQ_len, evalQ_load, evalQ_iaddr, evalQ_indexS, evalQ_extr, evalQ_field, evalQ_mx, evalQ_mn, evalQ_lenA, evalE_fn, evalE_append, evs_cons, evs_nil, ev_tmp, ev_lit, nth_zero, nth_succ, put_zero, put_succ, pickV_tt, pickV_ff, extrV_0, extrV_1, extrV_2, eql_int, neq_int, geq_int, decide_true, decide_false, cf, cp, q1, not_bool, Bool.not_true, ne_eq, not_true_eq_false, false_or, if_false, Int.neg_neg, Int.toNat_natCast]
              refine rep_loop (m := m) (p := n) (by omega) (by omega) (by omega) 1000 0 _ _ _ _ rfl (fun a b e z5 z6 => ?_) (fun e z2 z3 z4 z5 z6 => ?_)
              · simp only [WK_skip, WK_seq, WX_seq, WX_seq_exit, WX_seq_ret, WK_block, WX_block, WX_block_ret, WX_block_eq, WK_exit, WK_ret, WK_scope, WK_cond, WK_ops, WK_draw, WX_loop, WX_loop_exit, WX_loop_ret, WX_nil, WB_true, WB_false, WOs_nil, WDs_nil, WV_some, WA_some, WE_some, WDV_zero, WDE_none, putD_some, putD_none, WOs_g, WG_tt, WG_ff, WG_tf, WG_ft, WG_un, WOs_mov, WOs_bin, WOs_un, WOs_pick, WOs_toInt, WOs_len, WOs_load, WOs_iaddr, WOs_indexS, WOs_extr, WOs_field, WOs_toStr, WOs_call, WOs_store, WOs_append, WOs_slice, WOs_mx, WOs_mn, WOs_build, WOs_bslice, WOs_mkslice, WOs_alloc, WOs_lenA, WDs_mov, WDs_bin, WDs_call, evalQ_mov, evalQ_bin, evalQ_un, evalQ_pick, evalQ_toInt, evalQ_len, evalQ_load, evalQ_iaddr, evalQ_indexS, evalQ_extr, evalQ_field, evalQ_mx, evalQ_mn, evalQ_lenA, evalE_fn, evalE_append, evs_cons, evs_nil, ev_tmp, ev_lit, nth_zero, nth_succ, put_zero, put_succ, pickV_tt, pickV_ff, extrV_0, extrV_1, extrV_2, Ret_ret, result_3, e]
              · simp only [WK_skip, WK_seq, WX_seq, WX_seq_exit, WX_seq_ret, WK_block, WX_block, WX_block_ret, WX_block_eq, WK_exit, WK_ret, WK_scope, WK_cond, WK_ops, WK_draw, WX_loop, WX_loop_exit, WX_loop_ret, WX_nil, WB_true, WB_false, WOs_nil, WDs_nil, WV_some, WA_some, WE_some, WDV_zero, WDE_none, putD_some, putD_none, WOs_g, WG_tt, WG_ff, WG_tf, WG_ft, WG_un, WOs_mov, WOs_bin, WOs_un, WOs_pick, WOs_toInt, WOs_len, WOs_load, WOs_iaddr, WOs_indexS, WOs_extr, WOs_field, WOs_toStr, WOs_call, WOs_store, WOs_append, WOs_slice, WOs_mx, WOs_mn, WOs_build, WOs_bslice, WOs_mkslice, WOs_alloc, WOs_lenA, WDs_mov, WDs_bin, WDs_call, evalQ_mov, evalQ_bin, evalQ_un, evalQ_pick, evalQ_toInt, evalQ_len, evalQ_load, evalQ_iaddr, evalQ_indexS, evalQ_extr, evalQ_field, evalQ_mx, evalQ_mn, evalQ_lenA, evalE_fn, evalE_append, evs_cons, evs_nil, ev_tmp, ev_lit, nth_zero, nth_succ, put_zero, put_succ, pickV_tt, pickV_ff, extrV_0, extrV_1, extrV_2, Ret_ret, result_3, e]
            · simp only [hb, if_true, hd, hf, WK_skip, WK_seq, WX_seq, WX_seq_exit, WX_seq_ret, WK_block, WX_block, WX_block_ret, WX_block_eq, WK_exit, WK_ret, WK_scope, WK_cond, WK_ops, WK_draw, WX_loop, WX_loop_exit, WX_loop_ret, WX_nil, WB_true, WB_false, WOs_nil, WDs_nil, WV_some, WA_some, WE_some, WDV_zero, WDE_none, putD_some, putD_none, WOs_g, WG_tt, WG_ff, WG_tf, WG_ft, WG_un, WOs_mov, WOs_bin, WOs_un, WOs_pick, WOs_toInt, WOs_len, WOs_load, WOs_iaddr, WOs_indexS, WOs_extr, WOs_field, WOs_toStr, WOs_call, WOs_store, WOs_append, WOs_slice, WOs_mx, WOs_mn, WOs_build, WOs_bslice, WOs_mkslice, WOs_alloc, WOs_lenA, WDs_mov, WDs_bin, WDs_call, evalQ_mov, evalQ_bin, evalQ_un, evalQ_pick, evalQ_toInt, evalQ_len, evalQ_load, evalQ_iaddr, evalQ_indexS, evalQ_extr, evalQ_field, evalQ_mx, evalQ_mn, evalQ_lenA, evalE_fn, evalE_append, evs_cons, evs_nil, ev_tmp, ev_lit, nth_zero, nth_succ, put_zero, put_succ, pickV_tt, pickV_ff, extrV_0, extrV_1, extrV_2, eql_int, neq_int, geq_int, decide_true, decide_false, cf, cp, q1, not_bool, Bool.not_true, ne_eq, not_false_eq_true, not_true_eq_false, false_or, if_false, show ((7 : Int) = 0) = False from by simp, Ret_ret, result_3]
          · simp only [hb, if_true, hd, hf, WK_skip, WK_seq, WX_seq, WX_seq_exit, WX_seq_ret, WK_block, WX_block, WX_block_ret, WX_block_eq, WK_exit, WK_ret, WK_scope, WK_cond, WK_ops, WK_draw, WX_loop, WX_loop_exit, WX_loop_ret, WX_nil, WB_true, WB_false, WOs_nil, WDs_nil, WV_some, WA_some, WE_some, WDV_zero, WDE_none, putD_some, putD_none, WOs_g, WG_tt, WG_ff, WG_tf, WG_ft, WG_un, WOs_mov, WOs_bin, WOs_un, WOs_pick, WOs_toInt, WOs_len, WOs_load, WOs_iaddr, WOs_indexS, WOs_extr, WOs_field, WOs_toStr, WOs_call, WOs_store, WOs_append, WOs_slice, WOs_mx, WOs_mn, WOs_build, WOs_bslice, WOs_mkslice, WOs_alloc, WOs_lenA, WDs_mov, WDs_bin, WDs_call, evalQ_mov, evalQ_bin, evalQ_un, evalQ_pick, evalQ_toInt, evalQ_len, evalQ_load, evalQ_iaddr, evalQ_indexS, evalQ_extr, evalQ_field, evalQ_mx, evalQ_mn, evalQ_lenA, evalE_fn, evalE_append, evs_cons, evs_nil, ev_tmp, ev_lit, nth_zero, nth_succ, put_zero, put_succ, pickV_tt, pickV_ff, extrV_0, extrV_1, extrV_2, eql_int, neq_int, geq_int, decide_true, decide_false, cf, not_bool, Bool.not_false, ne_eq, not_false_eq_true, or_true, show ((3 : Int) = 0) = False from by simp, Ret_ret, result_3]
      · rw [l2] at l; cases l
    · rw [l1] at l; cases l
  · simp only [hb, WK_skip, WK_seq, WX_seq, WX_seq_exit, WX_seq_ret, WK_block, WX_block, WX_block_ret, WX_block_eq, WK_exit, WK_ret, WK_scope, WK_cond, WK_ops, WK_draw, WX_loop, WX_loop_exit, WX_loop_ret, WX_nil, WB_true, WB_false, WOs_nil, WDs_nil, WV_some, WA_some, WE_some, WDV_zero, WDE_none, putD_some, putD_none, WOs_g, WG_tt, WG_ff, WG_tf, WG_ft, WG_un, WOs_mov, WOs_bin, WOs_un, WOs_pick, WOs_toInt, WOs_len, WOs_load, WOs_iaddr, WOs_indexS, WOs_extr, WOs_field, WOs_toStr, WOs_call, WOs_store, WOs_append, WOs_slice, WOs_mx, WOs_mn, WOs_build, WOs_bslice, WOs_mkslice, WOs_alloc, WOs_lenA, WDs_mov, WDs_bin, WDs_call, evalQ_mov, evalQ_bin, evalQ_un, evalQ_pick, evalQ_toInt, evalQ_len, evalQ_load, evalQ_iaddr, evalQ_indexS, evalQ_extr, evalQ_field, evalQ_mx, evalQ_mn, evalQ_lenA, evalE_fn, evalE_append, evs_cons, evs_nil, ev_tmp, ev_lit, nth_zero, nth_succ, put_zero, put_succ, pickV_tt, pickV_ff, extrV_0, extrV_1, extrV_2, eql_int, neq_int, decide_true, decide_false, ne_eq, not_false_eq_true, if_false, show ((4 : Int) = 0) = False from by simp, Ret_ret, result_3]
theorem repV_plain (d p : Int) : AV.plain (repV d p) = true := by
  unfold repV
  split
  · split
    · rfl
    · split
      · split <;> rfl
      · rfl
  · rfl
noncomputable def I19 : Oracle := ext I18 28 repS
theorem I19_ok : IOK Go.Proofs.Try.prog I19 := IOK.extL mixed tabOK otabOK I18_ok (g := 28) (fn := af28) rfl fun args av h => by
  unfold repS at h
  split at h
  · rename_i d p
    cases h
    exact ⟨rfl, repV_plain d p, rep_run d p⟩
  · cases h
end Go.AM
