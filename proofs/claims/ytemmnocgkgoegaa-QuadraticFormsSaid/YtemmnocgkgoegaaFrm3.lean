/- The list of reduced forms: what the loops of the program and of the reference compute. No condition. -/
import Derived.Test.YtemmnocgkgoegaaFrm2
set_option maxRecDepth 100000
set_option linter.unusedSimpArgs false
namespace Go.AM
open Go
theorem build3q {tm : List AV} {h : AHeap} {x y w : AOpd} {z0 z1 z2 : AV} {a b c : Int} (hx : ev tm x = .int .i64 a) (hy : ev tm y = .int .i64 b) (hw : ev tm w = .int .i64 c) : evalQ (.build [z0, z1, z2] [(0, (1, x)), (1, (1, y)), (2, (1, w))]) tm h = some (fV a b c) := by
  simp only [evalQ, fills, hx, hy, hw]
  rfl
section
variable {h : AHeap} {i : Nat} {a b c : AV} {r : Bool}
theorem lds0 : loadV none (.ptr i 0) (h.set i (.cells [a, b, c] r)) = some a := ld0 (AHeap.get_set_same _ _ _)
theorem lds1 : loadV none (.ptr i 1) (h.set i (.cells [a, b, c] r)) = some b := ld1 (AHeap.get_set_same _ _ _)
theorem lds2 : loadV none (.ptr i 2) (h.set i (.cells [a, b, c] r)) = some c := ld2 (AHeap.get_set_same _ _ _)
theorem ldsS : loadV (some 3) (.ptr i 0) (h.set i (.cells [a, b, c] r)) = some (.agg [a, b, c]) := ldS (AHeap.get_set_same _ _ _)
end
theorem rowF_len (d : Int) (a : Nat) : ∀ (f : Nat) (b : Int) (L : List F3), (rowF d a f b L).length ≤ L.length + f
  | 0, _, _ => Nat.le_refl _
  | f + 1, b, L => by
    have h1 := rowF_len d a f (b + 1) (L ++ itemL d a b)
    have h2 := itemL_len d a b
    unfold rowF
    rw [List.length_append] at h1
    omega
theorem mid_of {x : Int} (h1 : -1000000 ≤ x) (h2 : x ≤ 1000000) : mid x := ⟨by omega, by omega⟩
section
variable {K : List Fr} {Q : AX → St → Prop} {h : AHeap}
theorem c_qred8 {A B C : Int} (ha : mid A) (hb : mid B) (hc : mid C) : lim otab.get L8 (.fn 54) [fV A B C] h = some (.bool (decide (isRed (A, B, C))), h) :=
  lim_oracle (or_hit (spec := isRedS) (if_pos ⟨ha.small, hb.small, hc.small⟩))
theorem c_rred8 {A B C : Int} (ha : mid A) (hb : mid B) (hc : mid C) : lim otab.get L8 (.fn 33) [fV A B C] h = some (.bool (decide (isRed (A, B, C))), h) :=
  lim_oracle (or_hit (spec := isRedS) (if_pos ⟨ha.small, hb.small, hc.small⟩))
theorem c_gcd8 {A B : Int} (ha : mid A) (hb : mid B) : lim otab.get L8 (.fn 55) [.int .i64 A, .int .i64 B] h = some (.int .i64 (Int.gcd A B : Int), h) :=
  lim_oracle (or_hit (spec := gcdS) (if_pos ⟨ha, hb⟩))
theorem c_rg38 {A B C : Int} (ha : mid A) (hb : mid B) (hc : mid C) : lim otab.get L8 (.fn 58) [.int .i64 A, .int .i64 B, .int .i64 C] h = some (.int .i64 (g3 A B C : Int), h) :=
  lim_oracle (or_hit (spec := rg3S) (if_pos ⟨ha, hb, hc⟩))
theorem gcd2 {A B C : Int} : Int.gcd ((Int.gcd A B : Nat) : Int) C = g3 A B C := by
  unfold g3 Int.gcd; rw [Int.natAbs_natCast]
theorem gcd_mid {A B : Int} (ha : -1000000 ≤ A) (ha2 : A ≤ 1000000) (h0 : 1 ≤ A) : mid ((Int.gcd A B : Nat) : Int) := by
  have h1 : Int.gcd A B ≤ A.natAbs := Nat.gcd_le_left _ (by omega)
  exact mid_of (by omega) (by omega)
noncomputable def pfI : ACode := match of22.body with | .seq _ (.seq _ (.seq _ (.seq _ (.seq _ (.seq (.seq _ (.block _ (.loop (.seq _ (.seq (.block _ (.seq _ (.block _ (.loop b)))) _))))) _))))) => b | c => c
noncomputable def pfO : ACode := match of22.body with | .seq _ (.seq _ (.seq _ (.seq _ (.seq _ (.seq (.seq _ (.block _ (.loop b))) _))))) => b | c => c
theorem pfI_loop {d : Int} {a : Nat} {h0 : AHeap} (d1 : -10000 ≤ d) (d2 : d < 0) (a1 : 1 ≤ a) (a2 : a ≤ 60) : ∀ (f : Nat) (b : Int) (L : List F3) (h : AHeap) (out y1 y3 y6 y7 y8 : AV), b + f = a + 1 → -(a : Int) ≤ b → LI h0 h out L → L.length + f ≤ 100000 →
    (∀ (h' : AHeap) (out' z1 z2 z3 z6 z7 z8 : AV), LI h0 h' out' (rowF d a f b L) → WX (lim otab.get L8) (.exit 2) K ⟨[.int .i64 d, z1, z2, z3, .int .i64 (a : Int), out', z6, z7, z8], h'⟩ Q) →
    WK (lim otab.get L8) (.loop pfI) K ⟨[.int .i64 d, y1, .int .i64 b, y3, .int .i64 (a : Int), out, y6, y7, y8], h⟩ Q := by
  intro f
  induction f with
  | zero =>
    intro b L h out y1 y3 y6 y7 y8 hb hb2 H hn hQ
    refine WK_loop' (by dsimp only [pfI, of22]) ?_
    have e : ¬ b ≤ (a : Int) := by omega
    simp only [WK_skip, WK_seq, WX_seq, WX_seq_exit, WX_seq_ret, WK_block, WX_block, WX_block_ret, WX_block_eq, WK_exit, WK_ret, WK_scope, WK_cond, WK_ops, WK_draw, WX_loop, WX_loop_exit, WX_loop_ret, WX_nil, WB_true, WB_false, WOs_nil, WDs_nil, WV_some, WA_some, WE_some, WDV_zero, WDE_none, putD_some, putD_none, WOs_g, WG_tt, WG_ff, WG_tf, WG_ft, WG_un, WOs_mov, WOs_bin, WOs_un, WOs_pick, WOs_toInt, WOs_len, WOs_load, WOs_iaddr, WOs_extr, WOs_call, WOs_store, WOs_append, WOs_slice, WOs_mx, WOs_mn, WOs_build, WOs_bslice, WOs_alloc, WDs_mov, WDs_bin, WDs_call, evalQ_mov, evalQ_bin, evalQ_un, evalQ_pick, evalQ_toInt, evalQ_len, evalQ_load, evalQ_iaddr, evalQ_extr, evalQ_mx, evalQ_mn, evalE_fn, evalE_append, evs_cons, evs_nil, ev_tmp, ev_lit, nth_zero, nth_succ, put_zero, put_succ, pickV_tt, pickV_ff, extrV_0, extrV_1, extrV_2, leq_int, e, decide_false]
    exact hQ h out _ _ _ _ _ _ H
  | succ f ih =>
    intro b L h out y1 y3 y6 y7 y8 hb hb2 H hn hQ
    refine WK_loop' (by dsimp only [pfI, of22]) ?_
    have e : b ≤ (a : Int) := by omega
    have hbb := mul_le_abs (x := b) (y := b) (X := 60) (Y := 60) (by omega) (by omega) (by omega) (by omega)
    have hb0 : 0 ≤ b * b := by
      have : ((b.natAbs * b.natAbs : Nat) : Int) = b * b := Int.natAbs_mul_self
      omega
    have hlen := itemL_len d a b
    have hrec : ∀ (h' : AHeap) (out' z1 z3 z6 z7 z8 : AV), LI h0 h' out' (L ++ itemL d a b) → WK (lim otab.get L8) (.loop pfI) K ⟨[.int .i64 d, z1, .int .i64 (b + 1), z3, .int .i64 (a : Int), out', z6, z7, z8], h'⟩ Q := by
      intro h' out' z1 z3 z6 z7 z8 H'
      exact ih (b + 1) (L ++ itemL d a b) h' out' z1 z3 z6 z7 z8 (by omega) (by omega) H' (by rw [List.length_append]; omega) hQ
    by_cases e8 : (b * b - d) % (4 * (a : Int)) = 0
    · have hq0 : 0 ≤ (b * b - d) / (4 * (a : Int)) := Int.ediv_nonneg (by omega) (by omega)
      have hq1 : (b * b - d) / (4 * (a : Int)) ≤ b * b - d := Int.ediv_le_self _ (by omega)
      have e9 : ¬ (b * b - d) % (4 * (a : Int)) ≠ 0 := fun x => x e8
      simp (disch := omega) only [WK_skip, WK_seq, WX_seq, WX_seq_exit, WX_seq_ret, WK_block, WX_block, WX_block_ret, WX_block_eq, WK_exit, WK_ret, WK_scope, WK_cond, WK_ops, WK_draw, WX_loop, WX_loop_exit, WX_loop_ret, WX_nil, WB_true, WB_false, WOs_nil, WDs_nil, WV_some, WA_some, WE_some, WDV_zero, WDE_none, putD_some, putD_none, WOs_g, WG_tt, WG_ff, WG_tf, WG_ft, WG_un, WOs_mov, WOs_bin, WOs_un, WOs_pick, WOs_toInt, WOs_len, WOs_load, WOs_iaddr, WOs_extr, WOs_call, WOs_store, WOs_append, WOs_slice, WOs_mx, WOs_mn, WOs_build, WOs_bslice, WOs_alloc, WDs_mov, WDs_bin, WDs_call, evalQ_mov, evalQ_bin, evalQ_un, evalQ_pick, evalQ_toInt, evalQ_len, evalQ_load, evalQ_iaddr, evalQ_extr, evalQ_mx, evalQ_mn, evalE_fn, evalE_append, evs_cons, evs_nil, ev_tmp, ev_lit, nth_zero, nth_succ, put_zero, put_succ, pickV_tt, pickV_ff, extrV_0, extrV_1, extrV_2, leq_int, e, decide_true, mul_i64, sub_i64, rem_pos, neq_int, e9, decide_false, quo_pos]
      generalize hq : (b * b - d) / (4 * (a : Int)) = q at hq0 hq1
      rw [build3q (a := (a : Int)) (b := b) (c := q) rfl rfl rfl]
      have ma : mid (a : Int) := mid_of (by omega) (by omega)
      have mb : mid b := mid_of (by omega) (by omega)
      have mq : mid q := mid_of (by omega) (by omega)
      have mg : mid ((Int.gcd (a : Int) b : Nat) : Int) := gcd_mid (by omega) (by omega) (by omega)
      have stv := stV3 (h := h.push (.cells [.int .i64 0, .int .i64 0, .int .i64 0] true)) (i := h.next) (x := .int .i64 (a : Int)) (y := .int .i64 b) (z := .int .i64 q) (AHeap.get_push_same h _) rfl rfl rfl
      by_cases hr : isRed ((a : Int), b, q)
      · by_cases hg : g3 a b q = 1
        · have hi : itemL d a b = [((a : Int), b, q)] := by unfold itemL; rw [if_pos e8, hq, if_pos ⟨hr, hg⟩]
          have hg' : ((g3 a b q : Nat) : Int) = 1 := by omega
          obtain ⟨b', h', ea, H'⟩ := (H.set (.cells [.int .i64 0, .int .i64 0, .int .i64 0] true) (.cells (fC a b q) true)).app ((a : Int), b, q) (by omega)
          simp only [WK_skip, WK_seq, WX_seq, WX_seq_exit, WX_seq_ret, WK_block, WX_block, WX_block_ret, WX_block_eq, WK_exit, WK_ret, WK_scope, WK_cond, WK_ops, WK_draw, WX_loop, WX_loop_exit, WX_loop_ret, WX_nil, WB_true, WB_false, WOs_nil, WDs_nil, WV_some, WA_some, WE_some, WDV_zero, WDE_none, putD_some, putD_none, WOs_g, WG_tt, WG_ff, WG_tf, WG_ft, WG_un, WOs_mov, WOs_bin, WOs_un, WOs_pick, WOs_toInt, WOs_len, WOs_load, WOs_iaddr, WOs_extr, WOs_call, WOs_store, WOs_append, WOs_slice, WOs_mx, WOs_mn, WOs_build, WOs_bslice, WOs_alloc, WDs_mov, WDs_bin, WDs_call, evalQ_mov, evalQ_bin, evalQ_un, evalQ_pick, evalQ_toInt, evalQ_len, evalQ_load, evalQ_iaddr, evalQ_extr, evalQ_mx, evalQ_mn, evalE_fn, evalE_append, evs_cons, evs_nil, ev_tmp, ev_lit, nth_zero, nth_succ, put_zero, put_succ, pickV_tt, pickV_ff, extrV_0, extrV_1, extrV_2, evalA_alloc, evalE_store, stv, WDs_load, DGs, DG_tt, WDs_faddr, WDs_pick, WDV_succ, WDE_some, checks, lower, recheck, AOp.cls, AV.beq_refl, cond_true, true_and, ldsS, lds0, lds1, lds2, evalQ_faddr, faddrV_0, faddrV_1, faddrV_2, c_qred8 ma mb mq, hr, decide_true, c_gcd8 ma mb, c_gcd8 mg mq, gcd2, eql_int, hg']
          rw [bslice3f (f := ((a : Int), b, q)) rfl]
          simp only [WK_skip, WK_seq, WX_seq, WX_seq_exit, WX_seq_ret, WK_block, WX_block, WX_block_ret, WX_block_eq, WK_exit, WK_ret, WK_scope, WK_cond, WK_ops, WK_draw, WX_loop, WX_loop_exit, WX_loop_ret, WX_nil, WB_true, WB_false, WOs_nil, WDs_nil, WV_some, WA_some, WE_some, WDV_zero, WDE_none, putD_some, putD_none, WOs_g, WG_tt, WG_ff, WG_tf, WG_ft, WG_un, WOs_mov, WOs_bin, WOs_un, WOs_pick, WOs_toInt, WOs_len, WOs_load, WOs_iaddr, WOs_extr, WOs_call, WOs_store, WOs_append, WOs_slice, WOs_mx, WOs_mn, WOs_build, WOs_bslice, WOs_alloc, WDs_mov, WDs_bin, WDs_call, evalQ_mov, evalQ_bin, evalQ_un, evalQ_pick, evalQ_toInt, evalQ_len, evalQ_load, evalQ_iaddr, evalQ_extr, evalQ_mx, evalQ_mn, evalE_fn, evalE_append, evs_cons, evs_nil, ev_tmp, ev_lit, nth_zero, nth_succ, put_zero, put_succ, pickV_tt, pickV_ff, extrV_0, extrV_1, extrV_2, ea]
          simp (disch := omega) only [WK_skip, WK_seq, WX_seq, WX_seq_exit, WX_seq_ret, WK_block, WX_block, WX_block_ret, WX_block_eq, WK_exit, WK_ret, WK_scope, WK_cond, WK_ops, WK_draw, WX_loop, WX_loop_exit, WX_loop_ret, WX_nil, WB_true, WB_false, WOs_nil, WDs_nil, WV_some, WA_some, WE_some, WDV_zero, WDE_none, putD_some, putD_none, WOs_g, WG_tt, WG_ff, WG_tf, WG_ft, WG_un, WOs_mov, WOs_bin, WOs_un, WOs_pick, WOs_toInt, WOs_len, WOs_load, WOs_iaddr, WOs_extr, WOs_call, WOs_store, WOs_append, WOs_slice, WOs_mx, WOs_mn, WOs_build, WOs_bslice, WOs_alloc, WDs_mov, WDs_bin, WDs_call, evalQ_mov, evalQ_bin, evalQ_un, evalQ_pick, evalQ_toInt, evalQ_len, evalQ_load, evalQ_iaddr, evalQ_extr, evalQ_mx, evalQ_mn, evalE_fn, evalE_append, evs_cons, evs_nil, ev_tmp, ev_lit, nth_zero, nth_succ, put_zero, put_succ, pickV_tt, pickV_ff, extrV_0, extrV_1, extrV_2, add_i64]
          rw [hi] at hrec
          exact hrec _ _ _ _ _ _ _ H'
        · have hi : itemL d a b = [] := by unfold itemL; rw [if_pos e8, hq, if_neg (fun x => hg x.2)]
          have hg' : ¬ ((g3 a b q : Nat) : Int) = 1 := by omega
          simp (disch := omega) only [WK_skip, WK_seq, WX_seq, WX_seq_exit, WX_seq_ret, WK_block, WX_block, WX_block_ret, WX_block_eq, WK_exit, WK_ret, WK_scope, WK_cond, WK_ops, WK_draw, WX_loop, WX_loop_exit, WX_loop_ret, WX_nil, WB_true, WB_false, WOs_nil, WDs_nil, WV_some, WA_some, WE_some, WDV_zero, WDE_none, putD_some, putD_none, WOs_g, WG_tt, WG_ff, WG_tf, WG_ft, WG_un, WOs_mov, WOs_bin, WOs_un, WOs_pick, WOs_toInt, WOs_len, WOs_load, WOs_iaddr, WOs_extr, WOs_call, WOs_store, WOs_append, WOs_slice, WOs_mx, WOs_mn, WOs_build, WOs_bslice, WOs_alloc, WDs_mov, WDs_bin, WDs_call, evalQ_mov, evalQ_bin, evalQ_un, evalQ_pick, evalQ_toInt, evalQ_len, evalQ_load, evalQ_iaddr, evalQ_extr, evalQ_mx, evalQ_mn, evalE_fn, evalE_append, evs_cons, evs_nil, ev_tmp, ev_lit, nth_zero, nth_succ, put_zero, put_succ, pickV_tt, pickV_ff, extrV_0, extrV_1, extrV_2, evalA_alloc, evalE_store, stv, WDs_load, DGs, DG_tt, WDs_faddr, WDs_pick, WDV_succ, WDE_some, checks, lower, recheck, AOp.cls, AV.beq_refl, cond_true, true_and, ldsS, lds0, lds1, lds2, evalQ_faddr, faddrV_0, faddrV_1, faddrV_2, c_qred8 ma mb mq, hr, decide_true, c_gcd8 ma mb, c_gcd8 mg mq, gcd2, eql_int, hg', decide_false, add_i64]
          rw [hi, List.append_nil] at hrec
          exact hrec _ _ _ _ _ _ _ (H.set _ _)
      · have hi : itemL d a b = [] := by unfold itemL; rw [if_pos e8, hq, if_neg (fun x => hr x.1)]
        simp (disch := omega) only [WK_skip, WK_seq, WX_seq, WX_seq_exit, WX_seq_ret, WK_block, WX_block, WX_block_ret, WX_block_eq, WK_exit, WK_ret, WK_scope, WK_cond, WK_ops, WK_draw, WX_loop, WX_loop_exit, WX_loop_ret, WX_nil, WB_true, WB_false, WOs_nil, WDs_nil, WV_some, WA_some, WE_some, WDV_zero, WDE_none, putD_some, putD_none, WOs_g, WG_tt, WG_ff, WG_tf, WG_ft, WG_un, WOs_mov, WOs_bin, WOs_un, WOs_pick, WOs_toInt, WOs_len, WOs_load, WOs_iaddr, WOs_extr, WOs_call, WOs_store, WOs_append, WOs_slice, WOs_mx, WOs_mn, WOs_build, WOs_bslice, WOs_alloc, WDs_mov, WDs_bin, WDs_call, evalQ_mov, evalQ_bin, evalQ_un, evalQ_pick, evalQ_toInt, evalQ_len, evalQ_load, evalQ_iaddr, evalQ_extr, evalQ_mx, evalQ_mn, evalE_fn, evalE_append, evs_cons, evs_nil, ev_tmp, ev_lit, nth_zero, nth_succ, put_zero, put_succ, pickV_tt, pickV_ff, extrV_0, extrV_1, extrV_2, evalA_alloc, evalE_store, stv, WDs_load, DGs, DG_ft, dgLow, WDs_faddr, WDs_pick, WDV_succ, WDE_some, checks, lower, recheck, AOp.cls, AV.beq_refl, cond_true, true_and, ldsS, lds0, lds1, lds2, evalQ_faddr, faddrV_0, faddrV_1, faddrV_2, c_qred8 ma mb mq, hr, decide_false, add_i64]
        rw [hi, List.append_nil] at hrec
        exact hrec _ _ _ _ _ _ _ (H.set _ _)
    · have hi : itemL d a b = [] := by unfold itemL; rw [if_neg e8]
      have e9 : ((b * b - d) % (4 * (a : Int)) ≠ 0) = True := eq_true e8
      simp (disch := omega) only [WK_skip, WK_seq, WX_seq, WX_seq_exit, WX_seq_ret, WK_block, WX_block, WX_block_ret, WX_block_eq, WK_exit, WK_ret, WK_scope, WK_cond, WK_ops, WK_draw, WX_loop, WX_loop_exit, WX_loop_ret, WX_nil, WB_true, WB_false, WOs_nil, WDs_nil, WV_some, WA_some, WE_some, WDV_zero, WDE_none, putD_some, putD_none, WOs_g, WG_tt, WG_ff, WG_tf, WG_ft, WG_un, WOs_mov, WOs_bin, WOs_un, WOs_pick, WOs_toInt, WOs_len, WOs_load, WOs_iaddr, WOs_extr, WOs_call, WOs_store, WOs_append, WOs_slice, WOs_mx, WOs_mn, WOs_build, WOs_bslice, WOs_alloc, WDs_mov, WDs_bin, WDs_call, evalQ_mov, evalQ_bin, evalQ_un, evalQ_pick, evalQ_toInt, evalQ_len, evalQ_load, evalQ_iaddr, evalQ_extr, evalQ_mx, evalQ_mn, evalE_fn, evalE_append, evs_cons, evs_nil, ev_tmp, ev_lit, nth_zero, nth_succ, put_zero, put_succ, pickV_tt, pickV_ff, extrV_0, extrV_1, extrV_2, leq_int, e, decide_true, mul_i64, sub_i64, rem_pos, neq_int, e9, add_i64]
      rw [hi, List.append_nil] at hrec
      exact hrec _ _ _ _ _ _ _ H
theorem pfO_loop {d : Int} {h0 : AHeap} (d1 : -10000 ≤ d) (d2 : d < 0) : ∀ (f a : Nat) (L : List F3) (h : AHeap) (out y1 y2 y3 y6 y7 y8 : AV), a + f = 61 → 1 ≤ a → LI h0 h out L → L.length ≤ 200 * a →
    (∀ (h' : AHeap) (out' z1 z2 z3 z4 z6 z7 z8 : AV), LI h0 h' out' (lstF d f a L) → WX (lim otab.get L8) (.exit 0) K ⟨[.int .i64 d, z1, z2, z3, z4, out', z6, z7, z8], h'⟩ Q) →
    WK (lim otab.get L8) (.loop pfO) K ⟨[.int .i64 d, y1, y2, y3, .int .i64 (a : Int), out, y6, y7, y8], h⟩ Q := by
  intro f
  induction f with
  | zero =>
    intro a L h out y1 y2 y3 y6 y7 y8 hf ha H hn hQ
    refine WK_loop' (by dsimp only [pfO, of22]) ?_
    have ha2 : a = 61 := by omega
    subst ha2
    have e1 : 3 * ((61 : Nat) : Int) * ((61 : Nat) : Int) = 11163 := by decide
    have e : ¬ (11163 : Int) ≤ -d := by omega
    simp (disch := omega) only [WK_skip, WK_seq, WX_seq, WX_seq_exit, WX_seq_ret, WK_block, WX_block, WX_block_ret, WX_block_eq, WK_exit, WK_ret, WK_scope, WK_cond, WK_ops, WK_draw, WX_loop, WX_loop_exit, WX_loop_ret, WX_nil, WB_true, WB_false, WOs_nil, WDs_nil, WV_some, WA_some, WE_some, WDV_zero, WDE_none, putD_some, putD_none, WOs_g, WG_tt, WG_ff, WG_tf, WG_ft, WG_un, WOs_mov, WOs_bin, WOs_un, WOs_pick, WOs_toInt, WOs_len, WOs_load, WOs_iaddr, WOs_extr, WOs_call, WOs_store, WOs_append, WOs_slice, WOs_mx, WOs_mn, WOs_build, WOs_bslice, WOs_alloc, WDs_mov, WDs_bin, WDs_call, evalQ_mov, evalQ_bin, evalQ_un, evalQ_pick, evalQ_toInt, evalQ_len, evalQ_load, evalQ_iaddr, evalQ_extr, evalQ_mx, evalQ_mn, evalE_fn, evalE_append, evs_cons, evs_nil, ev_tmp, ev_lit, nth_zero, nth_succ, put_zero, put_succ, pickV_tt, pickV_ff, extrV_0, extrV_1, extrV_2, mul_i64, e1, neg_i64, leq_int, e, decide_false]
    exact hQ h out _ _ _ _ _ _ _ H
  | succ f ih =>
    intro a L h out y1 y2 y3 y6 y7 y8 hf ha H hn hQ
    refine WK_loop' (by dsimp only [pfO, of22]) ?_
    have e1 : 3 * (a : Int) * (a : Int) = ((3 * a * a : Nat) : Int) := by simp
    have hb : 3 * a * a ≤ 3 * 60 * 60 := Nat.mul_le_mul (by omega) (by omega)
    unfold lstF at hQ
    by_cases e : 3 * a * a ≤ (-d).toNat
    · rw [if_pos e] at hQ
      have e2 : ((3 * a * a : Nat) : Int) ≤ -d := by omega
      simp (disch := omega) only [WK_skip, WK_seq, WX_seq, WX_seq_exit, WX_seq_ret, WK_block, WX_block, WX_block_ret, WX_block_eq, WK_exit, WK_ret, WK_scope, WK_cond, WK_ops, WK_draw, WX_loop, WX_loop_exit, WX_loop_ret, WX_nil, WB_true, WB_false, WOs_nil, WDs_nil, WV_some, WA_some, WE_some, WDV_zero, WDE_none, putD_some, putD_none, WOs_g, WG_tt, WG_ff, WG_tf, WG_ft, WG_un, WOs_mov, WOs_bin, WOs_un, WOs_pick, WOs_toInt, WOs_len, WOs_load, WOs_iaddr, WOs_extr, WOs_call, WOs_store, WOs_append, WOs_slice, WOs_mx, WOs_mn, WOs_build, WOs_bslice, WOs_alloc, WDs_mov, WDs_bin, WDs_call, evalQ_mov, evalQ_bin, evalQ_un, evalQ_pick, evalQ_toInt, evalQ_len, evalQ_load, evalQ_iaddr, evalQ_extr, evalQ_mx, evalQ_mn, evalE_fn, evalE_append, evs_cons, evs_nil, ev_tmp, ev_lit, nth_zero, nth_succ, put_zero, put_succ, pickV_tt, pickV_ff, extrV_0, extrV_1, extrV_2, mul_i64, e1, neg_i64, leq_int, e2, decide_true]
      refine pfI_loop d1 d2 ha (by omega) (2 * a + 1) (-(a : Int)) L h out _ _ _ _ _ (by omega) (by omega) H (by omega) ?_
      intro h' out' z1 z2 z3 z6 z7 z8 H'
      simp (disch := omega) only [WK_skip, WK_seq, WX_seq, WX_seq_exit, WX_seq_ret, WK_block, WX_block, WX_block_ret, WX_block_eq, WK_exit, WK_ret, WK_scope, WK_cond, WK_ops, WK_draw, WX_loop, WX_loop_exit, WX_loop_ret, WX_nil, WB_true, WB_false, WOs_nil, WDs_nil, WV_some, WA_some, WE_some, WDV_zero, WDE_none, putD_some, putD_none, WOs_g, WG_tt, WG_ff, WG_tf, WG_ft, WG_un, WOs_mov, WOs_bin, WOs_un, WOs_pick, WOs_toInt, WOs_len, WOs_load, WOs_iaddr, WOs_extr, WOs_call, WOs_store, WOs_append, WOs_slice, WOs_mx, WOs_mn, WOs_build, WOs_bslice, WOs_alloc, WDs_mov, WDs_bin, WDs_call, evalQ_mov, evalQ_bin, evalQ_un, evalQ_pick, evalQ_toInt, evalQ_len, evalQ_load, evalQ_iaddr, evalQ_extr, evalQ_mx, evalQ_mn, evalE_fn, evalE_append, evs_cons, evs_nil, ev_tmp, ev_lit, nth_zero, nth_succ, put_zero, put_succ, pickV_tt, pickV_ff, extrV_0, extrV_1, extrV_2, add_i64, show (a : Int) + 1 = ((a + 1 : Nat) : Int) from rfl]
      exact ih (a + 1) _ h' out' _ _ _ _ _ _ (by omega) (by omega) H' (Nat.le_trans (rowF_len d a _ _ _) (by omega)) hQ
    · rw [if_neg e] at hQ
      have e2 : ¬ ((3 * a * a : Nat) : Int) ≤ -d := by omega
      simp (disch := omega) only [WK_skip, WK_seq, WX_seq, WX_seq_exit, WX_seq_ret, WK_block, WX_block, WX_block_ret, WX_block_eq, WK_exit, WK_ret, WK_scope, WK_cond, WK_ops, WK_draw, WX_loop, WX_loop_exit, WX_loop_ret, WX_nil, WB_true, WB_false, WOs_nil, WDs_nil, WV_some, WA_some, WE_some, WDV_zero, WDE_none, putD_some, putD_none, WOs_g, WG_tt, WG_ff, WG_tf, WG_ft, WG_un, WOs_mov, WOs_bin, WOs_un, WOs_pick, WOs_toInt, WOs_len, WOs_load, WOs_iaddr, WOs_extr, WOs_call, WOs_store, WOs_append, WOs_slice, WOs_mx, WOs_mn, WOs_build, WOs_bslice, WOs_alloc, WDs_mov, WDs_bin, WDs_call, evalQ_mov, evalQ_bin, evalQ_un, evalQ_pick, evalQ_toInt, evalQ_len, evalQ_load, evalQ_iaddr, evalQ_extr, evalQ_mx, evalQ_mn, evalE_fn, evalE_append, evs_cons, evs_nil, ev_tmp, ev_lit, nth_zero, nth_succ, put_zero, put_succ, pickV_tt, pickV_ff, extrV_0, extrV_1, extrV_2, mul_i64, e1, neg_i64, leq_int, e2, decide_false]
      exact hQ h out _ _ _ _ _ _ _ H
noncomputable def rfI : ACode := match of24.body with | .seq _ (.seq _ (.seq (.seq _ (.block _ (.loop (.seq _ (.seq (.block _ (.seq _ (.block _ (.loop b)))) _))))) _)) => b | c => c
noncomputable def rfO : ACode := match of24.body with | .seq _ (.seq _ (.seq (.seq _ (.block _ (.loop b))) _)) => b | c => c
theorem rfI_loop {d : Int} {a : Nat} {h0 : AHeap} (d1 : -10000 ≤ d) (d2 : d < 0) (a1 : 1 ≤ a) (a2 : a ≤ 60) : ∀ (f : Nat) (b : Int) (L : List F3) (h : AHeap) (out y1 y3 y6 y7 y8 : AV), b + f = a + 1 → -(a : Int) ≤ b → LI h0 h out L → L.length + f ≤ 100000 →
    (∀ (h' : AHeap) (out' z1 z2 z3 z6 z7 z8 : AV), LI h0 h' out' (rowF d a f b L) → WX (lim otab.get L8) (.exit 2) K ⟨[.int .i64 d, z1, z2, z3, .int .i64 (a : Int), out', z6, z7, z8], h'⟩ Q) →
    WK (lim otab.get L8) (.loop rfI) K ⟨[.int .i64 d, y1, .int .i64 b, y3, .int .i64 (a : Int), out, y6, y7, y8], h⟩ Q := by
  intro f
  induction f with
  | zero =>
    intro b L h out y1 y3 y6 y7 y8 hb hb2 H hn hQ
    refine WK_loop' (by dsimp only [rfI, of24]) ?_
    have e : ¬ b ≤ (a : Int) := by omega
    simp only [WK_skip, WK_seq, WX_seq, WX_seq_exit, WX_seq_ret, WK_block, WX_block, WX_block_ret, WX_block_eq, WK_exit, WK_ret, WK_scope, WK_cond, WK_ops, WK_draw, WX_loop, WX_loop_exit, WX_loop_ret, WX_nil, WB_true, WB_false, WOs_nil, WDs_nil, WV_some, WA_some, WE_some, WDV_zero, WDE_none, putD_some, putD_none, WOs_g, WG_tt, WG_ff, WG_tf, WG_ft, WG_un, WOs_mov, WOs_bin, WOs_un, WOs_pick, WOs_toInt, WOs_len, WOs_load, WOs_iaddr, WOs_extr, WOs_call, WOs_store, WOs_append, WOs_slice, WOs_mx, WOs_mn, WOs_build, WOs_bslice, WOs_alloc, WDs_mov, WDs_bin, WDs_call, evalQ_mov, evalQ_bin, evalQ_un, evalQ_pick, evalQ_toInt, evalQ_len, evalQ_load, evalQ_iaddr, evalQ_extr, evalQ_mx, evalQ_mn, evalE_fn, evalE_append, evs_cons, evs_nil, ev_tmp, ev_lit, nth_zero, nth_succ, put_zero, put_succ, pickV_tt, pickV_ff, extrV_0, extrV_1, extrV_2, leq_int, e, decide_false]
    exact hQ h out _ _ _ _ _ _ H
  | succ f ih =>
    intro b L h out y1 y3 y6 y7 y8 hb hb2 H hn hQ
    refine WK_loop' (by dsimp only [rfI, of24]) ?_
    have e : b ≤ (a : Int) := by omega
    have hbb := mul_le_abs (x := b) (y := b) (X := 60) (Y := 60) (by omega) (by omega) (by omega) (by omega)
    have hb0 : 0 ≤ b * b := by
      have : ((b.natAbs * b.natAbs : Nat) : Int) = b * b := Int.natAbs_mul_self
      omega
    have hlen := itemL_len d a b
    have hrec : ∀ (h' : AHeap) (out' z1 z3 z6 z7 z8 : AV), LI h0 h' out' (L ++ itemL d a b) → WK (lim otab.get L8) (.loop rfI) K ⟨[.int .i64 d, z1, .int .i64 (b + 1), z3, .int .i64 (a : Int), out', z6, z7, z8], h'⟩ Q := by
      intro h' out' z1 z3 z6 z7 z8 H'
      exact ih (b + 1) (L ++ itemL d a b) h' out' z1 z3 z6 z7 z8 (by omega) (by omega) H' (by rw [List.length_append]; omega) hQ
    by_cases e8 : (b * b - d) % (4 * (a : Int)) = 0
    · have hq0 : 0 ≤ (b * b - d) / (4 * (a : Int)) := Int.ediv_nonneg (by omega) (by omega)
      have hq1 : (b * b - d) / (4 * (a : Int)) ≤ b * b - d := Int.ediv_le_self _ (by omega)
      have e9 : ¬ (b * b - d) % (4 * (a : Int)) ≠ 0 := fun x => x e8
      simp (disch := omega) only [WK_skip, WK_seq, WX_seq, WX_seq_exit, WX_seq_ret, WK_block, WX_block, WX_block_ret, WX_block_eq, WK_exit, WK_ret, WK_scope, WK_cond, WK_ops, WK_draw, WX_loop, WX_loop_exit, WX_loop_ret, WX_nil, WB_true, WB_false, WOs_nil, WDs_nil, WV_some, WA_some, WE_some, WDV_zero, WDE_none, putD_some, putD_none, WOs_g, WG_tt, WG_ff, WG_tf, WG_ft, WG_un, WOs_mov, WOs_bin, WOs_un, WOs_pick, WOs_toInt, WOs_len, WOs_load, WOs_iaddr, WOs_extr, WOs_call, WOs_store, WOs_append, WOs_slice, WOs_mx, WOs_mn, WOs_build, WOs_bslice, WOs_alloc, WDs_mov, WDs_bin, WDs_call, evalQ_mov, evalQ_bin, evalQ_un, evalQ_pick, evalQ_toInt, evalQ_len, evalQ_load, evalQ_iaddr, evalQ_extr, evalQ_mx, evalQ_mn, evalE_fn, evalE_append, evs_cons, evs_nil, ev_tmp, ev_lit, nth_zero, nth_succ, put_zero, put_succ, pickV_tt, pickV_ff, extrV_0, extrV_1, extrV_2, leq_int, e, decide_true, mul_i64, sub_i64, rem_pos, neq_int, e9, decide_false, quo_pos]
      generalize hq : (b * b - d) / (4 * (a : Int)) = q at hq0 hq1
      rw [build3q (a := (a : Int)) (b := b) (c := q) rfl rfl rfl]
      have ma : mid (a : Int) := mid_of (by omega) (by omega)
      have mb : mid b := mid_of (by omega) (by omega)
      have mq : mid q := mid_of (by omega) (by omega)
      have mg : mid ((Int.gcd (a : Int) b : Nat) : Int) := gcd_mid (by omega) (by omega) (by omega)
      have stv := stV3 (h := h.push (.cells [.int .i64 0, .int .i64 0, .int .i64 0] true)) (i := h.next) (x := .int .i64 (a : Int)) (y := .int .i64 b) (z := .int .i64 q) (AHeap.get_push_same h _) rfl rfl rfl
      by_cases hr : isRed ((a : Int), b, q)
      · by_cases hg : g3 a b q = 1
        · have hi : itemL d a b = [((a : Int), b, q)] := by unfold itemL; rw [if_pos e8, hq, if_pos ⟨hr, hg⟩]
          have hg' : ((g3 a b q : Nat) : Int) = 1 := by omega
          obtain ⟨b', h', ea, H'⟩ := (H.set (.cells [.int .i64 0, .int .i64 0, .int .i64 0] true) (.cells (fC a b q) true)).app ((a : Int), b, q) (by omega)
          simp only [WK_skip, WK_seq, WX_seq, WX_seq_exit, WX_seq_ret, WK_block, WX_block, WX_block_ret, WX_block_eq, WK_exit, WK_ret, WK_scope, WK_cond, WK_ops, WK_draw, WX_loop, WX_loop_exit, WX_loop_ret, WX_nil, WB_true, WB_false, WOs_nil, WDs_nil, WV_some, WA_some, WE_some, WDV_zero, WDE_none, putD_some, putD_none, WOs_g, WG_tt, WG_ff, WG_tf, WG_ft, WG_un, WOs_mov, WOs_bin, WOs_un, WOs_pick, WOs_toInt, WOs_len, WOs_load, WOs_iaddr, WOs_extr, WOs_call, WOs_store, WOs_append, WOs_slice, WOs_mx, WOs_mn, WOs_build, WOs_bslice, WOs_alloc, WDs_mov, WDs_bin, WDs_call, evalQ_mov, evalQ_bin, evalQ_un, evalQ_pick, evalQ_toInt, evalQ_len, evalQ_load, evalQ_iaddr, evalQ_extr, evalQ_mx, evalQ_mn, evalE_fn, evalE_append, evs_cons, evs_nil, ev_tmp, ev_lit, nth_zero, nth_succ, put_zero, put_succ, pickV_tt, pickV_ff, extrV_0, extrV_1, extrV_2, evalA_alloc, evalE_store, stv, WOs_faddr, ldsS, lds0, lds1, lds2, evalQ_faddr, faddrV_0, faddrV_1, faddrV_2, c_rred8 ma mb mq, hr, decide_true, c_rg38 ma mb mq, eql_int, hg']
          rw [bslice3f (f := ((a : Int), b, q)) rfl]
          simp only [WK_skip, WK_seq, WX_seq, WX_seq_exit, WX_seq_ret, WK_block, WX_block, WX_block_ret, WX_block_eq, WK_exit, WK_ret, WK_scope, WK_cond, WK_ops, WK_draw, WX_loop, WX_loop_exit, WX_loop_ret, WX_nil, WB_true, WB_false, WOs_nil, WDs_nil, WV_some, WA_some, WE_some, WDV_zero, WDE_none, putD_some, putD_none, WOs_g, WG_tt, WG_ff, WG_tf, WG_ft, WG_un, WOs_mov, WOs_bin, WOs_un, WOs_pick, WOs_toInt, WOs_len, WOs_load, WOs_iaddr, WOs_extr, WOs_call, WOs_store, WOs_append, WOs_slice, WOs_mx, WOs_mn, WOs_build, WOs_bslice, WOs_alloc, WDs_mov, WDs_bin, WDs_call, evalQ_mov, evalQ_bin, evalQ_un, evalQ_pick, evalQ_toInt, evalQ_len, evalQ_load, evalQ_iaddr, evalQ_extr, evalQ_mx, evalQ_mn, evalE_fn, evalE_append, evs_cons, evs_nil, ev_tmp, ev_lit, nth_zero, nth_succ, put_zero, put_succ, pickV_tt, pickV_ff, extrV_0, extrV_1, extrV_2, ea]
          simp (disch := omega) only [WK_skip, WK_seq, WX_seq, WX_seq_exit, WX_seq_ret, WK_block, WX_block, WX_block_ret, WX_block_eq, WK_exit, WK_ret, WK_scope, WK_cond, WK_ops, WK_draw, WX_loop, WX_loop_exit, WX_loop_ret, WX_nil, WB_true, WB_false, WOs_nil, WDs_nil, WV_some, WA_some, WE_some, WDV_zero, WDE_none, putD_some, putD_none, WOs_g, WG_tt, WG_ff, WG_tf, WG_ft, WG_un, WOs_mov, WOs_bin, WOs_un, WOs_pick, WOs_toInt, WOs_len, WOs_load, WOs_iaddr, WOs_extr, WOs_call, WOs_store, WOs_append, WOs_slice, WOs_mx, WOs_mn, WOs_build, WOs_bslice, WOs_alloc, WDs_mov, WDs_bin, WDs_call, evalQ_mov, evalQ_bin, evalQ_un, evalQ_pick, evalQ_toInt, evalQ_len, evalQ_load, evalQ_iaddr, evalQ_extr, evalQ_mx, evalQ_mn, evalE_fn, evalE_append, evs_cons, evs_nil, ev_tmp, ev_lit, nth_zero, nth_succ, put_zero, put_succ, pickV_tt, pickV_ff, extrV_0, extrV_1, extrV_2, add_i64]
          rw [hi] at hrec
          exact hrec _ _ _ _ _ _ _ H'
        · have hi : itemL d a b = [] := by unfold itemL; rw [if_pos e8, hq, if_neg (fun x => hg x.2)]
          have hg' : ¬ ((g3 a b q : Nat) : Int) = 1 := by omega
          simp (disch := omega) only [WK_skip, WK_seq, WX_seq, WX_seq_exit, WX_seq_ret, WK_block, WX_block, WX_block_ret, WX_block_eq, WK_exit, WK_ret, WK_scope, WK_cond, WK_ops, WK_draw, WX_loop, WX_loop_exit, WX_loop_ret, WX_nil, WB_true, WB_false, WOs_nil, WDs_nil, WV_some, WA_some, WE_some, WDV_zero, WDE_none, putD_some, putD_none, WOs_g, WG_tt, WG_ff, WG_tf, WG_ft, WG_un, WOs_mov, WOs_bin, WOs_un, WOs_pick, WOs_toInt, WOs_len, WOs_load, WOs_iaddr, WOs_extr, WOs_call, WOs_store, WOs_append, WOs_slice, WOs_mx, WOs_mn, WOs_build, WOs_bslice, WOs_alloc, WDs_mov, WDs_bin, WDs_call, evalQ_mov, evalQ_bin, evalQ_un, evalQ_pick, evalQ_toInt, evalQ_len, evalQ_load, evalQ_iaddr, evalQ_extr, evalQ_mx, evalQ_mn, evalE_fn, evalE_append, evs_cons, evs_nil, ev_tmp, ev_lit, nth_zero, nth_succ, put_zero, put_succ, pickV_tt, pickV_ff, extrV_0, extrV_1, extrV_2, evalA_alloc, evalE_store, stv, WOs_faddr, ldsS, lds0, lds1, lds2, evalQ_faddr, faddrV_0, faddrV_1, faddrV_2, c_rred8 ma mb mq, hr, decide_true, c_rg38 ma mb mq, eql_int, hg', decide_false, add_i64]
          rw [hi, List.append_nil] at hrec
          exact hrec _ _ _ _ _ _ _ (H.set _ _)
      · have hi : itemL d a b = [] := by unfold itemL; rw [if_pos e8, hq, if_neg (fun x => hr x.1)]
        simp (disch := omega) only [WK_skip, WK_seq, WX_seq, WX_seq_exit, WX_seq_ret, WK_block, WX_block, WX_block_ret, WX_block_eq, WK_exit, WK_ret, WK_scope, WK_cond, WK_ops, WK_draw, WX_loop, WX_loop_exit, WX_loop_ret, WX_nil, WB_true, WB_false, WOs_nil, WDs_nil, WV_some, WA_some, WE_some, WDV_zero, WDE_none, putD_some, putD_none, WOs_g, WG_tt, WG_ff, WG_tf, WG_ft, WG_un, WOs_mov, WOs_bin, WOs_un, WOs_pick, WOs_toInt, WOs_len, WOs_load, WOs_iaddr, WOs_extr, WOs_call, WOs_store, WOs_append, WOs_slice, WOs_mx, WOs_mn, WOs_build, WOs_bslice, WOs_alloc, WDs_mov, WDs_bin, WDs_call, evalQ_mov, evalQ_bin, evalQ_un, evalQ_pick, evalQ_toInt, evalQ_len, evalQ_load, evalQ_iaddr, evalQ_extr, evalQ_mx, evalQ_mn, evalE_fn, evalE_append, evs_cons, evs_nil, ev_tmp, ev_lit, nth_zero, nth_succ, put_zero, put_succ, pickV_tt, pickV_ff, extrV_0, extrV_1, extrV_2, evalA_alloc, evalE_store, stv, WOs_faddr, ldsS, lds0, lds1, lds2, evalQ_faddr, faddrV_0, faddrV_1, faddrV_2, c_rred8 ma mb mq, hr, decide_false, add_i64]
        rw [hi, List.append_nil] at hrec
        exact hrec _ _ _ _ _ _ _ (H.set _ _)
    · have hi : itemL d a b = [] := by unfold itemL; rw [if_neg e8]
      have e9 : ((b * b - d) % (4 * (a : Int)) ≠ 0) = True := eq_true e8
      simp (disch := omega) only [WK_skip, WK_seq, WX_seq, WX_seq_exit, WX_seq_ret, WK_block, WX_block, WX_block_ret, WX_block_eq, WK_exit, WK_ret, WK_scope, WK_cond, WK_ops, WK_draw, WX_loop, WX_loop_exit, WX_loop_ret, WX_nil, WB_true, WB_false, WOs_nil, WDs_nil, WV_some, WA_some, WE_some, WDV_zero, WDE_none, putD_some, putD_none, WOs_g, WG_tt, WG_ff, WG_tf, WG_ft, WG_un, WOs_mov, WOs_bin, WOs_un, WOs_pick, WOs_toInt, WOs_len, WOs_load, WOs_iaddr, WOs_extr, WOs_call, WOs_store, WOs_append, WOs_slice, WOs_mx, WOs_mn, WOs_build, WOs_bslice, WOs_alloc, WDs_mov, WDs_bin, WDs_call, evalQ_mov, evalQ_bin, evalQ_un, evalQ_pick, evalQ_toInt, evalQ_len, evalQ_load, evalQ_iaddr, evalQ_extr, evalQ_mx, evalQ_mn, evalE_fn, evalE_append, evs_cons, evs_nil, ev_tmp, ev_lit, nth_zero, nth_succ, put_zero, put_succ, pickV_tt, pickV_ff, extrV_0, extrV_1, extrV_2, leq_int, e, decide_true, mul_i64, sub_i64, rem_pos, neq_int, e9, add_i64]
      rw [hi, List.append_nil] at hrec
      exact hrec _ _ _ _ _ _ _ H
theorem rfO_loop {d : Int} {h0 : AHeap} (d1 : -10000 ≤ d) (d2 : d < 0) : ∀ (f a : Nat) (L : List F3) (h : AHeap) (out y1 y2 y3 y6 y7 y8 : AV), a + f = 61 → 1 ≤ a → LI h0 h out L → L.length ≤ 200 * a →
    (∀ (h' : AHeap) (out' z1 z2 z3 z4 z6 z7 z8 : AV), LI h0 h' out' (lstF d f a L) → WX (lim otab.get L8) (.exit 0) K ⟨[.int .i64 d, z1, z2, z3, z4, out', z6, z7, z8], h'⟩ Q) →
    WK (lim otab.get L8) (.loop rfO) K ⟨[.int .i64 d, y1, y2, y3, .int .i64 (a : Int), out, y6, y7, y8], h⟩ Q := by
  intro f
  induction f with
  | zero =>
    intro a L h out y1 y2 y3 y6 y7 y8 hf ha H hn hQ
    refine WK_loop' (by dsimp only [rfO, of24]) ?_
    have ha2 : a = 61 := by omega
    subst ha2
    have e1 : 3 * ((61 : Nat) : Int) * ((61 : Nat) : Int) = 11163 := by decide
    have e : ¬ (11163 : Int) ≤ -d := by omega
    simp (disch := omega) only [WK_skip, WK_seq, WX_seq, WX_seq_exit, WX_seq_ret, WK_block, WX_block, WX_block_ret, WX_block_eq, WK_exit, WK_ret, WK_scope, WK_cond, WK_ops, WK_draw, WX_loop, WX_loop_exit, WX_loop_ret, WX_nil, WB_true, WB_false, WOs_nil, WDs_nil, WV_some, WA_some, WE_some, WDV_zero, WDE_none, putD_some, putD_none, WOs_g, WG_tt, WG_ff, WG_tf, WG_ft, WG_un, WOs_mov, WOs_bin, WOs_un, WOs_pick, WOs_toInt, WOs_len, WOs_load, WOs_iaddr, WOs_extr, WOs_call, WOs_store, WOs_append, WOs_slice, WOs_mx, WOs_mn, WOs_build, WOs_bslice, WOs_alloc, WDs_mov, WDs_bin, WDs_call, evalQ_mov, evalQ_bin, evalQ_un, evalQ_pick, evalQ_toInt, evalQ_len, evalQ_load, evalQ_iaddr, evalQ_extr, evalQ_mx, evalQ_mn, evalE_fn, evalE_append, evs_cons, evs_nil, ev_tmp, ev_lit, nth_zero, nth_succ, put_zero, put_succ, pickV_tt, pickV_ff, extrV_0, extrV_1, extrV_2, mul_i64, e1, neg_i64, leq_int, e, decide_false]
    exact hQ h out _ _ _ _ _ _ _ H
  | succ f ih =>
    intro a L h out y1 y2 y3 y6 y7 y8 hf ha H hn hQ
    refine WK_loop' (by dsimp only [rfO, of24]) ?_
    have e1 : 3 * (a : Int) * (a : Int) = ((3 * a * a : Nat) : Int) := by simp
    have hb : 3 * a * a ≤ 3 * 60 * 60 := Nat.mul_le_mul (by omega) (by omega)
    unfold lstF at hQ
    by_cases e : 3 * a * a ≤ (-d).toNat
    · rw [if_pos e] at hQ
      have e2 : ((3 * a * a : Nat) : Int) ≤ -d := by omega
      simp (disch := omega) only [WK_skip, WK_seq, WX_seq, WX_seq_exit, WX_seq_ret, WK_block, WX_block, WX_block_ret, WX_block_eq, WK_exit, WK_ret, WK_scope, WK_cond, WK_ops, WK_draw, WX_loop, WX_loop_exit, WX_loop_ret, WX_nil, WB_true, WB_false, WOs_nil, WDs_nil, WV_some, WA_some, WE_some, WDV_zero, WDE_none, putD_some, putD_none, WOs_g, WG_tt, WG_ff, WG_tf, WG_ft, WG_un, WOs_mov, WOs_bin, WOs_un, WOs_pick, WOs_toInt, WOs_len, WOs_load, WOs_iaddr, WOs_extr, WOs_call, WOs_store, WOs_append, WOs_slice, WOs_mx, WOs_mn, WOs_build, WOs_bslice, WOs_alloc, WDs_mov, WDs_bin, WDs_call, evalQ_mov, evalQ_bin, evalQ_un, evalQ_pick, evalQ_toInt, evalQ_len, evalQ_load, evalQ_iaddr, evalQ_extr, evalQ_mx, evalQ_mn, evalE_fn, evalE_append, evs_cons, evs_nil, ev_tmp, ev_lit, nth_zero, nth_succ, put_zero, put_succ, pickV_tt, pickV_ff, extrV_0, extrV_1, extrV_2, mul_i64, e1, neg_i64, leq_int, e2, decide_true]
      refine rfI_loop d1 d2 ha (by omega) (2 * a + 1) (-(a : Int)) L h out _ _ _ _ _ (by omega) (by omega) H (by omega) ?_
      intro h' out' z1 z2 z3 z6 z7 z8 H'
      simp (disch := omega) only [WK_skip, WK_seq, WX_seq, WX_seq_exit, WX_seq_ret, WK_block, WX_block, WX_block_ret, WX_block_eq, WK_exit, WK_ret, WK_scope, WK_cond, WK_ops, WK_draw, WX_loop, WX_loop_exit, WX_loop_ret, WX_nil, WB_true, WB_false, WOs_nil, WDs_nil, WV_some, WA_some, WE_some, WDV_zero, WDE_none, putD_some, putD_none, WOs_g, WG_tt, WG_ff, WG_tf, WG_ft, WG_un, WOs_mov, WOs_bin, WOs_un, WOs_pick, WOs_toInt, WOs_len, WOs_load, WOs_iaddr, WOs_extr, WOs_call, WOs_store, WOs_append, WOs_slice, WOs_mx, WOs_mn, WOs_build, WOs_bslice, WOs_alloc, WDs_mov, WDs_bin, WDs_call, evalQ_mov, evalQ_bin, evalQ_un, evalQ_pick, evalQ_toInt, evalQ_len, evalQ_load, evalQ_iaddr, evalQ_extr, evalQ_mx, evalQ_mn, evalE_fn, evalE_append, evs_cons, evs_nil, ev_tmp, ev_lit, nth_zero, nth_succ, put_zero, put_succ, pickV_tt, pickV_ff, extrV_0, extrV_1, extrV_2, add_i64, show (a : Int) + 1 = ((a + 1 : Nat) : Int) from rfl]
      exact ih (a + 1) _ h' out' _ _ _ _ _ _ (by omega) (by omega) H' (Nat.le_trans (rowF_len d a _ _ _) (by omega)) hQ
    · rw [if_neg e] at hQ
      have e2 : ¬ ((3 * a * a : Nat) : Int) ≤ -d := by omega
      simp (disch := omega) only [WK_skip, WK_seq, WX_seq, WX_seq_exit, WX_seq_ret, WK_block, WX_block, WX_block_ret, WX_block_eq, WK_exit, WK_ret, WK_scope, WK_cond, WK_ops, WK_draw, WX_loop, WX_loop_exit, WX_loop_ret, WX_nil, WB_true, WB_false, WOs_nil, WDs_nil, WV_some, WA_some, WE_some, WDV_zero, WDE_none, putD_some, putD_none, WOs_g, WG_tt, WG_ff, WG_tf, WG_ft, WG_un, WOs_mov, WOs_bin, WOs_un, WOs_pick, WOs_toInt, WOs_len, WOs_load, WOs_iaddr, WOs_extr, WOs_call, WOs_store, WOs_append, WOs_slice, WOs_mx, WOs_mn, WOs_build, WOs_bslice, WOs_alloc, WDs_mov, WDs_bin, WDs_call, evalQ_mov, evalQ_bin, evalQ_un, evalQ_pick, evalQ_toInt, evalQ_len, evalQ_load, evalQ_iaddr, evalQ_extr, evalQ_mx, evalQ_mn, evalE_fn, evalE_append, evs_cons, evs_nil, ev_tmp, ev_lit, nth_zero, nth_succ, put_zero, put_succ, pickV_tt, pickV_ff, extrV_0, extrV_1, extrV_2, mul_i64, e1, neg_i64, leq_int, e2, decide_false]
      exact hQ h out _ _ _ _ _ _ _ H
end
end Go.AM
