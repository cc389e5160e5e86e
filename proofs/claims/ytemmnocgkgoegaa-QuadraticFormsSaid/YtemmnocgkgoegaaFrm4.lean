/- Sorting a list that is in order changes nothing. No condition. -/
import Derived.Test.YtemmnocgkgoegaaFrm3
set_option maxRecDepth 100000
set_option linter.unusedSimpArgs false
set_option linter.unusedVariables false
namespace Go.AM
open Go
noncomputable def cV (C : CallT) (f : AV) (args : List AV) (h : AHeap) : Option (AV × AHeap) := evalE (.call (.lit f) (args.map .lit)) C [] h
theorem evs_lits' : ∀ (args : List AV) (tm : List AV), evs tm (args.map .lit) = args
  | [], _ => rfl
  | x :: r, tm => by show x :: evs tm (r.map .lit) = _; rw [evs_lits' r]
theorem evalE_ct {C : CallT} {tm : List AV} {h : AHeap} (t : Nat) (args : List AOpd) : evalE (.call (.tmp t) args) C tm h = cV C (nth tm t) (evs tm args) h := by
  unfold cV; simp only [evalE, evs_lits', ev_tmp, ev_lit]
theorem cV_fn {C : CallT} {g : Nat} {args : List AV} {h : AHeap} : cV C (.fn (.func g) [] []) args h = C (.fn g) args h := by
  unfold cV; simp only [evalE, evs_lits', ev_lit, List.nil_append, List.append_nil]
theorem cut_flat : ∀ (L : List F3) (k : Nat) (hk : k < L.length), cut (flat3 L) (k * 3) 3 = some (fCq L[k])
  | f :: r, 0, _ => by
    show cut (fCq f ++ flat3 r) 0 3 = _
    show cut (.int .i64 f.1 :: .int .i64 f.2.1 :: .int .i64 f.2.2 :: flat3 r) 0 3 = _
    rw [cut_cons, cut_cons, cut_cons, cut_zero]; rfl
  | f :: r, k + 1, hk => by
    show cut (.int .i64 f.1 :: .int .i64 f.2.1 :: .int .i64 f.2.2 :: flat3 r) ((k + 1) * 3) 3 = _
    rw [show (k + 1) * 3 = k * 3 + 1 + 1 + 1 by omega, cut_succ, cut_succ, cut_succ]
    exact cut_flat r k (by simpa using hk)
theorem ldE {h : AHeap} {j : Nat} {L : List F3} (hc : cellsOf h j = some (flat3 L)) {k : Nat} (hk : k < L.length) : loadV (some 3) (.ptr j (0 + k * 3)) h = some (fVq L[k]) := by
  show (match cellsOf h j with | some c => fit (some 3) (0 + k * 3) c | none => none) = _
  rw [hc, Nat.zero_add]
  show (match cut (flat3 L) (k * 3) 3 with | some r => some (AV.agg r) | none => none) = _
  rw [cut_flat L k hk]
/-- in order, and within bounds -/
structure Srt (L : List F3) : Prop where
  le : ∀ i j (hi : i < j) (hj : j < L.length), 0 ≤ cmpV L[j] (L[i]'(by omega))
  mid : ∀ i (hi : i < L.length), AM.mid L[i].1 ∧ AM.mid L[i].2.1 ∧ AM.mid L[i].2.2
  n : L.length ≤ 50000
section
variable {h : AHeap} {j : Nat} {L : List F3} {K : List Fr} {Q : AX → St → Prop}
theorem c_cmp {h : AHeap} (S : Srt L) {i k : Nat} (hi : i < L.length) (hk : k < L.length) : lim otab.get L8 (.fn 57) [fVq L[i], fVq L[k]] h = some (.int .i64 (cmpV L[i] L[k]), h) := by
  obtain ⟨a1, a2, a3⟩ := S.mid i hi
  obtain ⟨b1, b2, b3⟩ := S.mid k hk
  exact lim_oracle (or_hit (spec := cmpS) (if_pos ⟨a1, a2, a3, b1, b2, b3⟩))
abbrev sV (j n : Nat) : AV := .slice j 0 n (.opn 3)
abbrev cmpF : AV := .fn (.func 57) [] []
theorem order2_spec (S : Srt L) (hc : cellsOf h j = some (flat3 L)) {a b : Nat} (hab : a < b) (hb : b < L.length) (p : AV) : lim otab.get L8 (.fn 121) [sV j L.length, .int .i64 (a : Int), .int .i64 (b : Int), p, cmpF] h = some (.tup [.int .i64 (a : Int), .int .i64 (b : Int)], h) := by
  refine runH (fn := of121) rfl rfl ?_
  show WK _ _ [] ⟨[sV j L.length, .int .i64 (a : Int), .int .i64 (b : Int), p, cmpF, aundef, aundef], h⟩ _
  dsimp only [of121]
  have e : ¬ cmpV L[b] L[a] < 0 := by have := S.le a b hab hb; omega
  simp (disch := omega) only [WK_skip, WK_seq, WX_seq, WX_seq_exit, WX_seq_ret, WK_block, WX_block, WX_block_ret, WX_block_eq, WK_exit, WK_ret, WK_scope, WK_cond, WK_ops, WK_draw, WX_loop, WX_loop_exit, WX_loop_ret, WX_nil, WB_true, WB_false, WOs_nil, WDs_nil, WV_some, WA_some, WE_some, WDV_zero, WDE_none, putD_some, putD_none, WOs_g, WG_tt, WG_ff, WG_tf, WG_ft, WG_un, WOs_mov, WOs_bin, WOs_un, WOs_pick, WOs_toInt, WOs_len, WOs_load, WOs_iaddr, WOs_extr, WOs_call, WOs_store, WOs_append, WOs_slice, WOs_mx, WOs_mn, WOs_build, WOs_bslice, WOs_alloc, WDs_mov, WDs_bin, WDs_call, evalQ_mov, evalQ_bin, evalQ_un, evalQ_pick, evalQ_toInt, evalQ_len, evalQ_load, evalQ_iaddr, evalQ_extr, evalQ_mx, evalQ_mn, evalE_fn, evalE_append, evs_cons, evs_nil, ev_tmp, ev_lit, nth_zero, nth_succ, put_zero, put_succ, pickV_tt, pickV_ff, extrV_0, extrV_1, extrV_2, WDs_iaddr, WDs_load, iaddrV_ok, ldE hc hb, ldE hc (show a < L.length by omega), evalE_ct, cV_fn, c_cmp S hb (show a < L.length by omega), lss_int, e, decide_false, RetH_ret, result_2, and_self]
theorem median_spec (S : Srt L) (hc : cellsOf h j = some (flat3 L)) {a b c : Nat} (hab : a < b) (hbc : b < c) (hb : c < L.length) (p : AV) : lim otab.get L8 (.fn 117) [sV j L.length, .int .i64 (a : Int), .int .i64 (b : Int), .int .i64 (c : Int), p, cmpF] h = some (.int .i64 (b : Int), h) := by
  refine runH (fn := of117) rfl rfl ?_
  show WK _ _ [] ⟨[sV j L.length, .int .i64 (a : Int), .int .i64 (b : Int), .int .i64 (c : Int), p, cmpF, aundef], h⟩ _
  dsimp only [of117]
  simp only [WK_skip, WK_seq, WX_seq, WX_seq_exit, WX_seq_ret, WK_block, WX_block, WX_block_ret, WX_block_eq, WK_exit, WK_ret, WK_scope, WK_cond, WK_ops, WK_draw, WX_loop, WX_loop_exit, WX_loop_ret, WX_nil, WB_true, WB_false, WOs_nil, WDs_nil, WV_some, WA_some, WE_some, WDV_zero, WDE_none, putD_some, putD_none, WOs_g, WG_tt, WG_ff, WG_tf, WG_ft, WG_un, WOs_mov, WOs_bin, WOs_un, WOs_pick, WOs_toInt, WOs_len, WOs_load, WOs_iaddr, WOs_extr, WOs_call, WOs_store, WOs_append, WOs_slice, WOs_mx, WOs_mn, WOs_build, WOs_bslice, WOs_alloc, WDs_mov, WDs_bin, WDs_call, evalQ_mov, evalQ_bin, evalQ_un, evalQ_pick, evalQ_toInt, evalQ_len, evalQ_load, evalQ_iaddr, evalQ_extr, evalQ_mx, evalQ_mn, evalE_fn, evalE_append, evs_cons, evs_nil, ev_tmp, ev_lit, nth_zero, nth_succ, put_zero, put_succ, pickV_tt, pickV_ff, extrV_0, extrV_1, extrV_2, order2_spec S hc hab (show b < L.length by omega), order2_spec S hc hbc hb, RetH_ret, result_1, and_self]
theorem medianAdj_spec (S : Srt L) (hc : cellsOf h j = some (flat3 L)) {a : Nat} (h1 : 1 ≤ a) (hb : a + 1 < L.length) (p : AV) : lim otab.get L8 (.fn 116) [sV j L.length, .int .i64 (a : Int), p, cmpF] h = some (.int .i64 (a : Int), h) := by
  refine runH (fn := of116) rfl rfl ?_
  show WK _ _ [] ⟨[sV j L.length, .int .i64 (a : Int), p, cmpF, aundef, aundef], h⟩ _
  dsimp only [of116]
  have hn := S.n
  have e1 : (a : Int) - 1 = ((a - 1 : Nat) : Int) := by omega
  have e2 : (a : Int) + 1 = ((a + 1 : Nat) : Int) := by omega
  simp (disch := omega) only [WK_skip, WK_seq, WX_seq, WX_seq_exit, WX_seq_ret, WK_block, WX_block, WX_block_ret, WX_block_eq, WK_exit, WK_ret, WK_scope, WK_cond, WK_ops, WK_draw, WX_loop, WX_loop_exit, WX_loop_ret, WX_nil, WB_true, WB_false, WOs_nil, WDs_nil, WV_some, WA_some, WE_some, WDV_zero, WDE_none, putD_some, putD_none, WOs_g, WG_tt, WG_ff, WG_tf, WG_ft, WG_un, WOs_mov, WOs_bin, WOs_un, WOs_pick, WOs_toInt, WOs_len, WOs_load, WOs_iaddr, WOs_extr, WOs_call, WOs_store, WOs_append, WOs_slice, WOs_mx, WOs_mn, WOs_build, WOs_bslice, WOs_alloc, WDs_mov, WDs_bin, WDs_call, evalQ_mov, evalQ_bin, evalQ_un, evalQ_pick, evalQ_toInt, evalQ_len, evalQ_load, evalQ_iaddr, evalQ_extr, evalQ_mx, evalQ_mn, evalE_fn, evalE_append, evs_cons, evs_nil, ev_tmp, ev_lit, nth_zero, nth_succ, put_zero, put_succ, pickV_tt, pickV_ff, extrV_0, extrV_1, extrV_2, sub_i64, add_i64, e1, e2, median_spec S hc (show a - 1 < a by omega) (show a < a + 1 by omega) hb, RetH_ret, result_1, and_self]
theorem pivot_spec (S : Srt L) (hj : j < h.next) (hc : cellsOf h j = some (flat3 L)) (h13 : 13 ≤ L.length) : ∃ v : Int, lim otab.get L8 (.fn 97) [sV j L.length, .int .i64 0, .int .i64 (L.length : Int), cmpF] h = some (.tup [.int .i64 v, .int .i64 1], h.push (.cells [.int .i64 0] true)) := by
  refine ⟨((L.length / 4 * 2 : Nat) : Int), ?_⟩
  refine runH (fn := of97) rfl rfl ?_
  have hn := S.n
  generalize hs : sV j L.length = s
  generalize hm : L.length = n at *
  show WK _ _ [] ⟨(s :: .int .i64 0 :: .int .i64 (n : Int) :: .fn (.func 57) [] [] :: aundef :: aundef :: aundef :: aundef :: aundef :: aundef :: aundef :: aundef :: aundef :: aundef :: aundef :: aundef :: aundef :: aundef :: aundef :: aundef :: aundef :: aundef :: aundef :: aundef :: aundef :: aundef :: aundef :: aundef :: aundef :: aundef :: aundef :: aundef :: aundef :: aundef :: aundef :: aundef :: aundef :: aundef :: aundef :: aundef :: aundef :: aundef :: aundef :: aundef :: aundef :: aundef :: aundef :: aundef :: aundef :: aundef :: aundef :: aundef :: aundef :: aundef :: aundef :: aundef :: aundef :: aundef :: aundef :: aundef :: aundef :: aundef :: aundef :: []), h⟩ _
  dsimp only [of97, af97]
  subst hs
  have hc1 : cellsOf (h.push (.cells [.int .i64 0] true)) j = some (flat3 L) := by rw [cellsOf_push_ne hj]; exact hc
  have q0 : (n : Int) - 0 = (n : Int) := by omega
  have q1 : (n : Int) / 4 = ((n / 4 : Nat) : Int) := by omega
  have q2 : ((n / 4 : Nat) : Int) * 1 = ((n / 4 : Nat) : Int) := by omega
  have q3 : ((n / 4 : Nat) : Int) * 2 = ((n / 4 * 2 : Nat) : Int) := by omega
  have q4 : ((n / 4 : Nat) : Int) * 3 = ((n / 4 * 3 : Nat) : Int) := by omega
  have q5 : (8 : Int) ≤ (n : Int) := by omega
  have q6 : ∀ x : Nat, (0 : Int) + (x : Int) = (x : Int) := by intro x; omega
  have sl : ∀ m, m = n → sV j m = sV j L.length := by intro m e; rw [e, hm]
  have lsw : loadV none (.ptr h.next 0) (h.push (.cells [.int .i64 0] true)) = some (.int .i64 0) := loadV_at cellsOf_push rfl
  have md := median_spec S hc1 (a := n / 4) (b := n / 4 * 2) (c := n / 4 * 3) (by omega) (by omega) (by omega) (.ptr h.next 0)
  have m1 := medianAdj_spec S hc1 (a := n / 4) (by omega) (by omega) (.ptr h.next 0)
  have m2 := medianAdj_spec S hc1 (a := n / 4 * 2) (by omega) (by omega) (.ptr h.next 0)
  have m3 := medianAdj_spec S hc1 (a := n / 4 * 3) (by omega) (by omega) (.ptr h.next 0)
  rw [hm] at md m1 m2 m3
  by_cases e50 : (50 : Int) ≤ (n : Int)
  · simp (disch := omega) only [WK_skip, WK_seq, WX_seq, WX_seq_exit, WX_seq_ret, WK_block, WX_block, WX_block_ret, WX_block_eq, WK_exit, WK_ret, WK_scope, WK_cond, WK_ops, WK_draw, WX_loop, WX_loop_exit, WX_loop_ret, WX_nil, WB_true, WB_false, WOs_nil, WDs_nil, WV_some, WA_some, WE_some, WDV_zero, WDE_none, putD_some, putD_none, WOs_g, WG_tt, WG_ff, WG_tf, WG_ft, WG_un, WOs_mov, WOs_bin, WOs_un, WOs_pick, WOs_toInt, WOs_len, WOs_load, WOs_iaddr, WOs_extr, WOs_call, WOs_store, WOs_append, WOs_slice, WOs_mx, WOs_mn, WOs_build, WOs_bslice, WOs_alloc, WDs_mov, WDs_bin, WDs_call, evalQ_mov, evalQ_bin, evalQ_un, evalQ_pick, evalQ_toInt, evalQ_len, evalQ_load, evalQ_iaddr, evalQ_extr, evalQ_mx, evalQ_mn, evalE_fn, evalE_append, evs_cons, evs_nil, ev_tmp, ev_lit, nth_zero, nth_succ, put_zero, put_succ, pickV_tt, pickV_ff, extrV_0, extrV_1, extrV_2, sub_i64, q0, evalA_alloc, quo_pos, q1, mul_i64, q2, q3, q4, add_i64, q6, geq_int, q5, e50, decide_true, m1, m2, m3, md, lsw, eql_int, RetH_ret, result_2, and_self]
  · simp (disch := omega) only [WK_skip, WK_seq, WX_seq, WX_seq_exit, WX_seq_ret, WK_block, WX_block, WX_block_ret, WX_block_eq, WK_exit, WK_ret, WK_scope, WK_cond, WK_ops, WK_draw, WX_loop, WX_loop_exit, WX_loop_ret, WX_nil, WB_true, WB_false, WOs_nil, WDs_nil, WV_some, WA_some, WE_some, WDV_zero, WDE_none, putD_some, putD_none, WOs_g, WG_tt, WG_ff, WG_tf, WG_ft, WG_un, WOs_mov, WOs_bin, WOs_un, WOs_pick, WOs_toInt, WOs_len, WOs_load, WOs_iaddr, WOs_extr, WOs_call, WOs_store, WOs_append, WOs_slice, WOs_mx, WOs_mn, WOs_build, WOs_bslice, WOs_alloc, WDs_mov, WDs_bin, WDs_call, evalQ_mov, evalQ_bin, evalQ_un, evalQ_pick, evalQ_toInt, evalQ_len, evalQ_load, evalQ_iaddr, evalQ_extr, evalQ_mx, evalQ_mn, evalE_fn, evalE_append, evs_cons, evs_nil, ev_tmp, ev_lit, nth_zero, nth_succ, put_zero, put_succ, pickV_tt, pickV_ff, extrV_0, extrV_1, extrV_2, sub_i64, q0, evalA_alloc, quo_pos, q1, mul_i64, q2, q3, q4, add_i64, q6, geq_int, q5, e50, decide_true, decide_false, md, lsw, eql_int, RetH_ret, result_2, and_self]
noncomputable def insB : ACode := match of94.body with | .seq _ (.block _ (.loop b)) => b | c => c
theorem ins_loop (S : Srt L) (hc : cellsOf h j = some (flat3 L)) : ∀ (f i : Nat) (y4 y5 y6 y7 y8 y9 : AV), i + f = L.length → 1 ≤ i →
    (∀ z4 z5 z6 z7 z8 z9 z10 : AV, WX (lim otab.get L8) (.exit 0) K ⟨[sV j L.length, .int .i64 0, .int .i64 (L.length : Int), cmpF, z4, z5, z6, z7, z8, z9, z10], h⟩ Q) →
    WK (lim otab.get L8) (.loop insB) K ⟨[sV j L.length, .int .i64 0, .int .i64 (L.length : Int), cmpF, y4, y5, y6, y7, y8, y9, .int .i64 (i : Int)], h⟩ Q := by
  intro f
  have hn := S.n
  induction f with
  | zero =>
    intro i y4 y5 y6 y7 y8 y9 hf hi hQ
    refine WK_loop' (by dsimp only [insB, of94]) ?_
    have e : ¬ (i : Int) < (L.length : Int) := by omega
    simp only [WK_skip, WK_seq, WX_seq, WX_seq_exit, WX_seq_ret, WK_block, WX_block, WX_block_ret, WX_block_eq, WK_exit, WK_ret, WK_scope, WK_cond, WK_ops, WK_draw, WX_loop, WX_loop_exit, WX_loop_ret, WX_nil, WB_true, WB_false, WOs_nil, WDs_nil, WV_some, WA_some, WE_some, WDV_zero, WDE_none, putD_some, putD_none, WOs_g, WG_tt, WG_ff, WG_tf, WG_ft, WG_un, WOs_mov, WOs_bin, WOs_un, WOs_pick, WOs_toInt, WOs_len, WOs_load, WOs_iaddr, WOs_extr, WOs_call, WOs_store, WOs_append, WOs_slice, WOs_mx, WOs_mn, WOs_build, WOs_bslice, WOs_alloc, WDs_mov, WDs_bin, WDs_call, evalQ_mov, evalQ_bin, evalQ_un, evalQ_pick, evalQ_toInt, evalQ_len, evalQ_load, evalQ_iaddr, evalQ_extr, evalQ_mx, evalQ_mn, evalE_fn, evalE_append, evs_cons, evs_nil, ev_tmp, ev_lit, nth_zero, nth_succ, put_zero, put_succ, pickV_tt, pickV_ff, extrV_0, extrV_1, extrV_2, lss_int, e, decide_false]
    exact hQ _ _ _ _ _ _ _
  | succ f ih =>
    intro i y4 y5 y6 y7 y8 y9 hf hi hQ
    refine WK_loop' (by dsimp only [insB, of94]) ?_
    have e : (i : Int) < (L.length : Int) := by omega
    have e0 : (0 : Int) < (i : Int) := by omega
    have hi2 : i < L.length := by omega
    have e1 : (i : Int) - 1 = ((i - 1 : Nat) : Int) := by omega
    have e2 : ¬ cmpV L[i] L[i - 1] < 0 := by have := S.le (i - 1) i (by omega) hi2; omega
    simp only [WK_skip, WK_seq, WX_seq, WX_seq_exit, WX_seq_ret, WK_block, WX_block, WX_block_ret, WX_block_eq, WK_exit, WK_ret, WK_scope, WK_cond, WK_ops, WK_draw, WX_loop, WX_loop_exit, WX_loop_ret, WX_nil, WB_true, WB_false, WOs_nil, WDs_nil, WV_some, WA_some, WE_some, WDV_zero, WDE_none, putD_some, putD_none, WOs_g, WG_tt, WG_ff, WG_tf, WG_ft, WG_un, WOs_mov, WOs_bin, WOs_un, WOs_pick, WOs_toInt, WOs_len, WOs_load, WOs_iaddr, WOs_extr, WOs_call, WOs_store, WOs_append, WOs_slice, WOs_mx, WOs_mn, WOs_build, WOs_bslice, WOs_alloc, WDs_mov, WDs_bin, WDs_call, evalQ_mov, evalQ_bin, evalQ_un, evalQ_pick, evalQ_toInt, evalQ_len, evalQ_load, evalQ_iaddr, evalQ_extr, evalQ_mx, evalQ_mn, evalE_fn, evalE_append, evs_cons, evs_nil, ev_tmp, ev_lit, nth_zero, nth_succ, put_zero, put_succ, pickV_tt, pickV_ff, extrV_0, extrV_1, extrV_2, lss_int, e, decide_true]
    refine WK_loop ?_
    simp (disch := omega) only [WK_skip, WK_seq, WX_seq, WX_seq_exit, WX_seq_ret, WK_block, WX_block, WX_block_ret, WX_block_eq, WK_exit, WK_ret, WK_scope, WK_cond, WK_ops, WK_draw, WX_loop, WX_loop_exit, WX_loop_ret, WX_nil, WB_true, WB_false, WOs_nil, WDs_nil, WV_some, WA_some, WE_some, WDV_zero, WDE_none, putD_some, putD_none, WOs_g, WG_tt, WG_ff, WG_tf, WG_ft, WG_un, WOs_mov, WOs_bin, WOs_un, WOs_pick, WOs_toInt, WOs_len, WOs_load, WOs_iaddr, WOs_extr, WOs_call, WOs_store, WOs_append, WOs_slice, WOs_mx, WOs_mn, WOs_build, WOs_bslice, WOs_alloc, WDs_mov, WDs_bin, WDs_call, evalQ_mov, evalQ_bin, evalQ_un, evalQ_pick, evalQ_toInt, evalQ_len, evalQ_load, evalQ_iaddr, evalQ_extr, evalQ_mx, evalQ_mn, evalE_fn, evalE_append, evs_cons, evs_nil, ev_tmp, ev_lit, nth_zero, nth_succ, put_zero, put_succ, pickV_tt, pickV_ff, extrV_0, extrV_1, extrV_2, WDs_iaddr, WDs_load, WDs_pick, DGs, DG_tt, gtr_int, lss_int, e0, decide_true, iaddrV_ok, ldE hc hi2, ldE hc (show i - 1 < L.length by omega), sub_i64, e1, evalE_ct, cV_fn, c_cmp S hi2 (show i - 1 < L.length by omega), e2, decide_false, WX_block_ne, add_i64, show (i : Int) + 1 = ((i + 1 : Nat) : Int) from rfl]
    exact ih (i + 1) _ _ _ _ _ _ (by omega) (by omega) hQ
theorem RetH_normal {rs : List ARes} {av : AV} {h : AHeap} {s : St} : RetH rs av h .normal s ↔ result rs s.tm s.h = some av ∧ s.h = h := ⟨fun h => h.2, fun h => ⟨(fun i hi => by cases hi), h⟩⟩
theorem result_0 {tm : List AV} {h : AHeap} : result [] tm h = some (.tup []) := rfl
theorem ins_spec (S : Srt L) (hc : cellsOf h j = some (flat3 L)) (h1 : 1 ≤ L.length) : lim otab.get L8 (.fn 94) [sV j L.length, .int .i64 0, .int .i64 (L.length : Int), cmpF] h = some (.tup [], h) := by
  refine runH (fn := of94) rfl rfl ?_
  show WK _ _ [] ⟨[sV j L.length, .int .i64 0, .int .i64 (L.length : Int), cmpF, aundef, aundef, aundef, aundef, aundef, aundef, aundef], h⟩ _
  dsimp only [of94]
  simp (disch := omega) only [WK_skip, WK_seq, WX_seq, WX_seq_exit, WX_seq_ret, WK_block, WX_block, WX_block_ret, WX_block_eq, WK_exit, WK_ret, WK_scope, WK_cond, WK_ops, WK_draw, WX_loop, WX_loop_exit, WX_loop_ret, WX_nil, WB_true, WB_false, WOs_nil, WDs_nil, WV_some, WA_some, WE_some, WDV_zero, WDE_none, putD_some, putD_none, WOs_g, WG_tt, WG_ff, WG_tf, WG_ft, WG_un, WOs_mov, WOs_bin, WOs_un, WOs_pick, WOs_toInt, WOs_len, WOs_load, WOs_iaddr, WOs_extr, WOs_call, WOs_store, WOs_append, WOs_slice, WOs_mx, WOs_mn, WOs_build, WOs_bslice, WOs_alloc, WDs_mov, WDs_bin, WDs_call, evalQ_mov, evalQ_bin, evalQ_un, evalQ_pick, evalQ_toInt, evalQ_len, evalQ_load, evalQ_iaddr, evalQ_extr, evalQ_mx, evalQ_mn, evalE_fn, evalE_append, evs_cons, evs_nil, ev_tmp, ev_lit, nth_zero, nth_succ, put_zero, put_succ, pickV_tt, pickV_ff, extrV_0, extrV_1, extrV_2, add_i64]
  refine ins_loop S hc (L.length - 1) 1 _ _ _ _ _ _ (by omega) (by omega) fun z4 z5 z6 z7 z8 z9 z10 => ?_
  simp only [WK_skip, WK_seq, WX_seq, WX_seq_exit, WX_seq_ret, WK_block, WX_block, WX_block_ret, WX_block_eq, WK_exit, WK_ret, WK_scope, WK_cond, WK_ops, WK_draw, WX_loop, WX_loop_exit, WX_loop_ret, WX_nil, WB_true, WB_false, WOs_nil, WDs_nil, WV_some, WA_some, WE_some, WDV_zero, WDE_none, putD_some, putD_none, WOs_g, WG_tt, WG_ff, WG_tf, WG_ft, WG_un, WOs_mov, WOs_bin, WOs_un, WOs_pick, WOs_toInt, WOs_len, WOs_load, WOs_iaddr, WOs_extr, WOs_call, WOs_store, WOs_append, WOs_slice, WOs_mx, WOs_mn, WOs_build, WOs_bslice, WOs_alloc, WDs_mov, WDs_bin, WDs_call, evalQ_mov, evalQ_bin, evalQ_un, evalQ_pick, evalQ_toInt, evalQ_len, evalQ_load, evalQ_iaddr, evalQ_extr, evalQ_mx, evalQ_mn, evalE_fn, evalE_append, evs_cons, evs_nil, ev_tmp, ev_lit, nth_zero, nth_succ, put_zero, put_succ, pickV_tt, pickV_ff, extrV_0, extrV_1, extrV_2, RetH_normal, result_0, and_self]
noncomputable def parB : ACode := match of99.body with | .seq _ (.seq _ (.seq (.seq _ (.block _ (.loop (.seq _ (.seq (.block _ (.seq (.block _ (.loop b)) _)) _))))) _)) => b | c => c
theorem par_loop (S : Srt L) (hc : cellsOf h j = some (flat3 L)) : ∀ (f i : Nat) (y4 y6 y7 y8 y9 y10 : AV), i + f = L.length → 1 ≤ i →
    (∀ z4 z6 z7 z8 z9 : AV, WX (lim otab.get L8) (.exit 2) K ⟨[sV j L.length, .int .i64 0, .int .i64 (L.length : Int), cmpF, z4, .int .i64 (L.length : Int), z6, z7, z8, z9, y10], h⟩ Q) →
    WK (lim otab.get L8) (.loop parB) K ⟨[sV j L.length, .int .i64 0, .int .i64 (L.length : Int), cmpF, y4, .int .i64 (i : Int), y6, y7, y8, y9, y10], h⟩ Q := by
  intro f
  have hn := S.n
  induction f with
  | zero =>
    intro i y4 y6 y7 y8 y9 y10 hf hi hQ
    refine WK_loop' (by dsimp only [parB, of99]) ?_
    have hi2 : i = L.length := by omega
    subst hi2
    have e : ¬ ((L.length : Nat) : Int) < (L.length : Int) := by omega
    simp only [WK_skip, WK_seq, WX_seq, WX_seq_exit, WX_seq_ret, WK_block, WX_block, WX_block_ret, WX_block_eq, WK_exit, WK_ret, WK_scope, WK_cond, WK_ops, WK_draw, WX_loop, WX_loop_exit, WX_loop_ret, WX_nil, WB_true, WB_false, WOs_nil, WDs_nil, WV_some, WA_some, WE_some, WDV_zero, WDE_none, putD_some, putD_none, WOs_g, WG_tt, WG_ff, WG_tf, WG_ft, WG_un, WOs_mov, WOs_bin, WOs_un, WOs_pick, WOs_toInt, WOs_len, WOs_load, WOs_iaddr, WOs_extr, WOs_call, WOs_store, WOs_append, WOs_slice, WOs_mx, WOs_mn, WOs_build, WOs_bslice, WOs_alloc, WDs_mov, WDs_bin, WDs_call, evalQ_mov, evalQ_bin, evalQ_un, evalQ_pick, evalQ_toInt, evalQ_len, evalQ_load, evalQ_iaddr, evalQ_extr, evalQ_mx, evalQ_mn, evalE_fn, evalE_append, evs_cons, evs_nil, ev_tmp, ev_lit, nth_zero, nth_succ, put_zero, put_succ, pickV_tt, pickV_ff, extrV_0, extrV_1, extrV_2, DGs, DG_ft, dgLow, AOp.cls, lower, WDs_pick, lss_int, e, decide_false]
    exact hQ _ _ _ _ _
  | succ f ih =>
    intro i y4 y6 y7 y8 y9 y10 hf hi hQ
    refine WK_loop' (by dsimp only [parB, of99]) ?_
    have e : (i : Int) < (L.length : Int) := by omega
    have hi2 : i < L.length := by omega
    have e1 : (i : Int) - 1 = ((i - 1 : Nat) : Int) := by omega
    have e2 : ¬ cmpV L[i] L[i - 1] < 0 := by have := S.le (i - 1) i (by omega) hi2; omega
    simp (disch := omega) only [WK_skip, WK_seq, WX_seq, WX_seq_exit, WX_seq_ret, WK_block, WX_block, WX_block_ret, WX_block_eq, WK_exit, WK_ret, WK_scope, WK_cond, WK_ops, WK_draw, WX_loop, WX_loop_exit, WX_loop_ret, WX_nil, WB_true, WB_false, WOs_nil, WDs_nil, WV_some, WA_some, WE_some, WDV_zero, WDE_none, putD_some, putD_none, WOs_g, WG_tt, WG_ff, WG_tf, WG_ft, WG_un, WOs_mov, WOs_bin, WOs_un, WOs_pick, WOs_toInt, WOs_len, WOs_load, WOs_iaddr, WOs_extr, WOs_call, WOs_store, WOs_append, WOs_slice, WOs_mx, WOs_mn, WOs_build, WOs_bslice, WOs_alloc, WDs_mov, WDs_bin, WDs_call, evalQ_mov, evalQ_bin, evalQ_un, evalQ_pick, evalQ_toInt, evalQ_len, evalQ_load, evalQ_iaddr, evalQ_extr, evalQ_mx, evalQ_mn, evalE_fn, evalE_append, evs_cons, evs_nil, ev_tmp, ev_lit, nth_zero, nth_succ, put_zero, put_succ, pickV_tt, pickV_ff, extrV_0, extrV_1, extrV_2, WDs_iaddr, WDs_load, WDs_pick, WDs_un, DGs, DG_tt, lss_int, e, decide_true, iaddrV_ok, ldE hc hi2, ldE hc (show i - 1 < L.length by omega), sub_i64, e1, evalE_ct, cV_fn, c_cmp S hi2 (show i - 1 < L.length by omega), e2, decide_false, not_bool, Bool.not_false, add_i64, show (i : Int) + 1 = ((i + 1 : Nat) : Int) from rfl]
    exact ih (i + 1) _ _ _ _ _ _ (by omega) (by omega) hQ
theorem par_spec (S : Srt L) (hc : cellsOf h j = some (flat3 L)) (h1 : 1 ≤ L.length) : lim otab.get L8 (.fn 99) [sV j L.length, .int .i64 0, .int .i64 (L.length : Int), cmpF] h = some (.bool true, h) := by
  refine runH (fn := of99) rfl rfl ?_
  show WK _ _ [] ⟨[sV j L.length, .int .i64 0, .int .i64 (L.length : Int), cmpF, aundef, aundef, aundef, aundef, aundef, aundef, aundef], h⟩ _
  dsimp only [of99]
  simp (disch := omega) only [WK_skip, WK_seq, WX_seq, WX_seq_exit, WX_seq_ret, WK_block, WX_block, WX_block_ret, WX_block_eq, WK_exit, WK_ret, WK_scope, WK_cond, WK_ops, WK_draw, WX_loop, WX_loop_exit, WX_loop_ret, WX_nil, WB_true, WB_false, WOs_nil, WDs_nil, WV_some, WA_some, WE_some, WDV_zero, WDE_none, putD_some, putD_none, WOs_g, WG_tt, WG_ff, WG_tf, WG_ft, WG_un, WOs_mov, WOs_bin, WOs_un, WOs_pick, WOs_toInt, WOs_len, WOs_load, WOs_iaddr, WOs_extr, WOs_call, WOs_store, WOs_append, WOs_slice, WOs_mx, WOs_mn, WOs_build, WOs_bslice, WOs_alloc, WDs_mov, WDs_bin, WDs_call, evalQ_mov, evalQ_bin, evalQ_un, evalQ_pick, evalQ_toInt, evalQ_len, evalQ_load, evalQ_iaddr, evalQ_extr, evalQ_mx, evalQ_mn, evalE_fn, evalE_append, evs_cons, evs_nil, ev_tmp, ev_lit, nth_zero, nth_succ, put_zero, put_succ, pickV_tt, pickV_ff, extrV_0, extrV_1, extrV_2, add_i64]
  refine WK_loop ?_
  simp only [WK_skip, WK_seq, WX_seq, WX_seq_exit, WX_seq_ret, WK_block, WX_block, WX_block_ret, WX_block_eq, WK_exit, WK_ret, WK_scope, WK_cond, WK_ops, WK_draw, WX_loop, WX_loop_exit, WX_loop_ret, WX_nil, WB_true, WB_false, WOs_nil, WDs_nil, WV_some, WA_some, WE_some, WDV_zero, WDE_none, putD_some, putD_none, WOs_g, WG_tt, WG_ff, WG_tf, WG_ft, WG_un, WOs_mov, WOs_bin, WOs_un, WOs_pick, WOs_toInt, WOs_len, WOs_load, WOs_iaddr, WOs_extr, WOs_call, WOs_store, WOs_append, WOs_slice, WOs_mx, WOs_mn, WOs_build, WOs_bslice, WOs_alloc, WDs_mov, WDs_bin, WDs_call, evalQ_mov, evalQ_bin, evalQ_un, evalQ_pick, evalQ_toInt, evalQ_len, evalQ_load, evalQ_iaddr, evalQ_extr, evalQ_mx, evalQ_mn, evalE_fn, evalE_append, evs_cons, evs_nil, ev_tmp, ev_lit, nth_zero, nth_succ, put_zero, put_succ, pickV_tt, pickV_ff, extrV_0, extrV_1, extrV_2, lss_int, show decide ((0 : Int) < 5) = true from rfl]
  refine par_loop S hc (L.length - 1) 1 _ _ _ _ _ _ (by omega) (by omega) fun z4 z6 z7 z8 z9 => ?_
  simp only [WK_skip, WK_seq, WX_seq, WX_seq_exit, WX_seq_ret, WK_block, WX_block, WX_block_ret, WX_block_eq, WK_exit, WK_ret, WK_scope, WK_cond, WK_ops, WK_draw, WX_loop, WX_loop_exit, WX_loop_ret, WX_nil, WB_true, WB_false, WOs_nil, WDs_nil, WV_some, WA_some, WE_some, WDV_zero, WDE_none, putD_some, putD_none, WOs_g, WG_tt, WG_ff, WG_tf, WG_ft, WG_un, WOs_mov, WOs_bin, WOs_un, WOs_pick, WOs_toInt, WOs_len, WOs_load, WOs_iaddr, WOs_extr, WOs_call, WOs_store, WOs_append, WOs_slice, WOs_mx, WOs_mn, WOs_build, WOs_bslice, WOs_alloc, WDs_mov, WDs_bin, WDs_call, evalQ_mov, evalQ_bin, evalQ_un, evalQ_pick, evalQ_toInt, evalQ_len, evalQ_load, evalQ_iaddr, evalQ_extr, evalQ_mx, evalQ_mn, evalE_fn, evalE_append, evs_cons, evs_nil, ev_tmp, ev_lit, nth_zero, nth_succ, put_zero, put_succ, pickV_tt, pickV_ff, extrV_0, extrV_1, extrV_2, eql_int, decide_true, RetH_ret, result_1, and_self]
end
end Go.AM
