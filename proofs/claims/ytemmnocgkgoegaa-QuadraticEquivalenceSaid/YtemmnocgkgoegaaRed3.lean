/- The reference's reduction: what the code computes. No condition. -/
import Derived.Test.YtemmnocgkgoegaaRed2
set_option maxRecDepth 100000
set_option linter.unusedSimpArgs false
namespace Go.AM
open Go
section
variable {h : AHeap} {i : Nat} {a b c : AV} {k : IntKind} {n : Int} {r : Bool}
theorem lds0 : loadV none (.ptr i 0) (h.set i (.cells [a, b, c] r)) = some a := ld0 (AHeap.get_set_same _ _ _)
theorem lds1 : loadV none (.ptr i 1) (h.set i (.cells [a, b, c] r)) = some b := ld1 (AHeap.get_set_same _ _ _)
theorem lds2 : loadV none (.ptr i 2) (h.set i (.cells [a, b, c] r)) = some c := ld2 (AHeap.get_set_same _ _ _)
theorem ldsS : loadV (some 3) (.ptr i 0) (h.set i (.cells [a, b, c] r)) = some (.agg [a, b, c]) := ldS (AHeap.get_set_same _ _ _)
theorem sts0 : stV 1 (.ptr i 0) (.int k n) (h.set i (.cells [a, b, c] true)) = some (aundef, (h.set i (.cells [a, b, c] true)).set i (.cells [.int k n, b, c] true)) := stV10 (AHeap.get_set_same _ _ _) rfl
theorem sts1 : stV 1 (.ptr i 1) (.int k n) (h.set i (.cells [a, b, c] true)) = some (aundef, (h.set i (.cells [a, b, c] true)).set i (.cells [a, .int k n, c] true)) := stV11 (AHeap.get_set_same _ _ _) rfl
theorem sts2 : stV 1 (.ptr i 2) (.int k n) (h.set i (.cells [a, b, c] true)) = some (aundef, (h.set i (.cells [a, b, c] true)).set i (.cells [a, b, .int k n] true)) := stV12 (AHeap.get_set_same _ _ _) rfl
end
theorem get10 {h : AHeap} {o : AObj} : (h.set 0 o).get 1 = h.get 1 := AHeap.get_set_ne h o (by decide)
abbrev fCt (f : F3) : List AV := fC f.1 f.2.1 f.2.2
abbrev fVt (f : F3) : AV := fV f.1 f.2.1 f.2.2
section
variable {K : List Fr} {Q : AX → St → Prop}
theorem c_isRed4 {A B C : Int} {h : AHeap} (hv : VF A B C) : lim otab.get K4 (.fn 33) [fV A B C] h = some (.bool (decide (isRed (A, B, C))), h) := by
  have hc := hv.c
  have a1 := hv.a1
  have a2 := hv.a2
  have b1 := hv.b1
  have b2 := hv.b2
  exact lim_oracle (or_hit (spec := isRedS) (if_pos ⟨by unfold small; omega, by unfold small; omega, by unfold small; omega⟩))
theorem c_floor4 {A B : Int} {h : AHeap} (a1 : 1 ≤ A) (a2 : A ≤ 100000) (b1 : -100000 ≤ B) (b2 : B ≤ 100000) : lim otab.get K4 (.fn 60) [.int .i64 (A - B), .int .i64 (2 * A)] h = some (.int .i64 (nk A B), h) :=
  lim_oracle (or_hit (spec := floorS) (if_pos ⟨by unfold small; omega, by omega, by omega⟩))
noncomputable def rredB : ACode := match of27.body with | .seq _ (.seq (.seq _ (.block _ (.loop b))) _) => b | c => c
theorem rred_loop {u v w : AV} : ∀ (m n : Nat) (f : F3) (h : AHeap) (y1 y2 y4 y5 : AV), VT f → (∃ j, j ≤ m ∧ isRed (itr j f)) → n + m ≤ 900 → h.get 0 = some (.cells (fCt f) true) → h.get 1 = some (.cells [u, v, w] true) →
    (∀ (h' : AHeap) (z1 z2 z3 z4 z5 : AV), h'.get 0 = some (.cells (fCt (rdF m f)) true) → h'.get 1 = some (.cells [u, v, w] true) → WX (lim otab.get K4) (.exit 0) K ⟨[.ptr 0 0, z1, z2, z3, z4, z5, .ptr 1 0], h'⟩ Q) →
    WK (lim otab.get K4) (.loop rredB) K ⟨[.ptr 0 0, y1, y2, .int .i64 (n : Int), y4, y5, .ptr 1 0], h⟩ Q := by
  intro m
  induction m with
  | zero =>
    intro n f h y1 y2 y4 y5 hf hj hn g0 g1 hQ
    obtain ⟨A, B, C⟩ := f
    obtain ⟨j, j1, j2⟩ := hj
    have hj0 : j = 0 := by omega
    subst hj0
    have hr : isRed (A, B, C) := j2
    refine WK_loop' (by dsimp only [rredB, of27]) ?_
    have e1 : (n : Int) < 1000 := by omega
    simp only [WK_skip, WK_seq, WX_seq, WX_seq_exit, WX_seq_ret, WK_block, WX_block, WX_block_ret, WX_block_eq, WK_exit, WK_ret, WK_scope, WK_cond, WK_ops, WK_draw, WX_loop, WX_loop_exit, WX_loop_ret, WX_nil, WB_true, WB_false, WOs_nil, WDs_nil, WV_some, WA_some, WE_some, WDV_zero, WDE_none, putD_some, putD_none, WOs_g, WG_tt, WG_ff, WG_tf, WG_ft, WG_un, WOs_mov, WOs_bin, WOs_un, WOs_pick, WOs_toInt, WOs_len, WOs_load, WOs_iaddr, WOs_indexS, WOs_extr, WOs_field, WOs_toStr, WOs_call, WOs_store, WOs_append, WOs_slice, WOs_mx, WOs_mn, WOs_build, WOs_bslice, WOs_mkslice, WOs_alloc, WOs_lenA, WDs_mov, WDs_bin, WDs_call, evalQ_mov, evalQ_bin, evalQ_un, evalQ_pick, evalQ_toInt, evalQ_len, evalQ_load, evalQ_iaddr, evalQ_indexS, evalQ_extr, evalQ_field, evalQ_mx, evalQ_mn, evalQ_lenA, evalE_fn, evalE_append, evs_cons, evs_nil, ev_tmp, ev_lit, nth_zero, nth_succ, put_zero, put_succ, pickV_tt, pickV_ff, extrV_0, extrV_1, extrV_2, lss_int, e1, decide_true, ldS g0, c_isRed4 hf, hr, not_bool, Bool.not_true]
    exact hQ h _ _ _ _ _ g0 g1
  | succ m ih =>
    intro n f h y1 y2 y4 y5 hf hj hn g0 g1 hQ
    obtain ⟨A, B, C⟩ := f
    have hv : VF A B C := hf
    refine WK_loop' (by dsimp only [rredB, of27]) ?_
    have e1 : (n : Int) < 1000 := by omega
    unfold rdF at hQ
    by_cases hr : isRed (A, B, C)
    · rw [if_pos hr] at hQ
      simp only [WK_skip, WK_seq, WX_seq, WX_seq_exit, WX_seq_ret, WK_block, WX_block, WX_block_ret, WX_block_eq, WK_exit, WK_ret, WK_scope, WK_cond, WK_ops, WK_draw, WX_loop, WX_loop_exit, WX_loop_ret, WX_nil, WB_true, WB_false, WOs_nil, WDs_nil, WV_some, WA_some, WE_some, WDV_zero, WDE_none, putD_some, putD_none, WOs_g, WG_tt, WG_ff, WG_tf, WG_ft, WG_un, WOs_mov, WOs_bin, WOs_un, WOs_pick, WOs_toInt, WOs_len, WOs_load, WOs_iaddr, WOs_indexS, WOs_extr, WOs_field, WOs_toStr, WOs_call, WOs_store, WOs_append, WOs_slice, WOs_mx, WOs_mn, WOs_build, WOs_bslice, WOs_mkslice, WOs_alloc, WOs_lenA, WDs_mov, WDs_bin, WDs_call, evalQ_mov, evalQ_bin, evalQ_un, evalQ_pick, evalQ_toInt, evalQ_len, evalQ_load, evalQ_iaddr, evalQ_indexS, evalQ_extr, evalQ_field, evalQ_mx, evalQ_mn, evalQ_lenA, evalE_fn, evalE_append, evs_cons, evs_nil, ev_tmp, ev_lit, nth_zero, nth_succ, put_zero, put_succ, pickV_tt, pickV_ff, extrV_0, extrV_1, extrV_2, lss_int, e1, decide_true, ldS g0, c_isRed4 hf, hr, not_bool, Bool.not_true]
      exact hQ h _ _ _ _ _ g0 g1
    · rw [if_neg hr] at hQ
      obtain ⟨j, j1, j2⟩ := hj
      have hj' : ∃ j, j ≤ m ∧ isRed (itr j (stp (A, B, C))) := by
        cases j with
        | zero => exact absurd j2 hr
        | succ j => exact ⟨j, by omega, j2⟩
      have hstep := hf.step
      obtain ⟨q1, q2, q3, q4, q5, q6, q7, q8, q9, q10, q11⟩ := hv.bds
      have a1 := hv.a1
      have a2 := hv.a2
      have b1 := hv.b1
      have b2 := hv.b2
      have hc := hv.c
      have hc' := hv.norm.c
      have hnr := nB_range (B := B) a1
      have hnB : B + 2 * nk A B * A = nB A B := by unfold nB; rw [q11]
      have hnC : A * nk A B * nk A B + B * nk A B + C = nC A B C := rfl
      have hnC0 : nC A B C = A * nk A B * nk A B + B * nk A B + C := rfl
      have hnB0 : nB A B = B + 2 * A * nk A B := rfl
      have hs1 := stV12 (x := .int .i64 (nC A B C)) g0 rfl
      simp (disch := omega) only [WK_skip, WK_seq, WX_seq, WX_seq_exit, WX_seq_ret, WK_block, WX_block, WX_block_ret, WX_block_eq, WK_exit, WK_ret, WK_scope, WK_cond, WK_ops, WK_draw, WX_loop, WX_loop_exit, WX_loop_ret, WX_nil, WB_true, WB_false, WOs_nil, WDs_nil, WV_some, WA_some, WE_some, WDV_zero, WDE_none, putD_some, putD_none, WOs_g, WG_tt, WG_ff, WG_tf, WG_ft, WG_un, WOs_mov, WOs_bin, WOs_un, WOs_pick, WOs_toInt, WOs_len, WOs_load, WOs_iaddr, WOs_indexS, WOs_extr, WOs_field, WOs_toStr, WOs_call, WOs_store, WOs_append, WOs_slice, WOs_mx, WOs_mn, WOs_build, WOs_bslice, WOs_mkslice, WOs_alloc, WOs_lenA, WDs_mov, WDs_bin, WDs_call, evalQ_mov, evalQ_bin, evalQ_un, evalQ_pick, evalQ_toInt, evalQ_len, evalQ_load, evalQ_iaddr, evalQ_indexS, evalQ_extr, evalQ_field, evalQ_mx, evalQ_mn, evalQ_lenA, evalE_fn, evalE_append, evs_cons, evs_nil, ev_tmp, ev_lit, nth_zero, nth_succ, put_zero, put_succ, pickV_tt, pickV_ff, extrV_0, extrV_1, extrV_2, lss_int, e1, decide_true, ldS g0, c_isRed4 hf, hr, decide_false, not_bool, Bool.not_false, WOs_faddr, evalQ_faddr, faddrV_0, faddrV_1, faddrV_2, ld0 g0, ld1 g0, ld2 g0, sub_i64, mul_i64, c_floor4 a1 a2 b1 b2, add_i64, hnC, evalE_store, hs1, lds0, lds1, lds2, hnB, sts1, gtr_int, eql_int]
      have next : ∀ (h2 : AHeap) (z1 z2 z4 z5 : AV), h2.get 0 = some (.cells (fCt (stp (A, B, C))) true) → h2.get 1 = some (.cells [u, v, w] true) →
          WK (lim otab.get K4) (.loop rredB) K ⟨[.ptr 0 0, z1, z2, .int .i64 ((n + 1 : Nat) : Int), z4, z5, .ptr 1 0], h2⟩ Q := fun h2 z1 z2 z4 z5 k0 k1 => ih (n + 1) (stp (A, B, C)) h2 z1 z2 z4 z5 hstep hj' (by omega) k0 k1 hQ
      have en : (n : Int) + 1 = ((n + 1 : Nat) : Int) := rfl
      by_cases s1 : nC A B C < A
      · have es : stp (A, B, C) = (nC A B C, -nB A B, A) := by unfold stp; dsimp only; rw [if_pos (.inl s1)]
        simp (disch := omega) only [s1, decide_true, WK_skip, WK_seq, WX_seq, WX_seq_exit, WX_seq_ret, WK_block, WX_block, WX_block_ret, WX_block_eq, WK_exit, WK_ret, WK_scope, WK_cond, WK_ops, WK_draw, WX_loop, WX_loop_exit, WX_loop_ret, WX_nil, WB_true, WB_false, WOs_nil, WDs_nil, WV_some, WA_some, WE_some, WDV_zero, WDE_none, putD_some, putD_none, WOs_g, WG_tt, WG_ff, WG_tf, WG_ft, WG_un, WOs_mov, WOs_bin, WOs_un, WOs_pick, WOs_toInt, WOs_len, WOs_load, WOs_iaddr, WOs_indexS, WOs_extr, WOs_field, WOs_toStr, WOs_call, WOs_store, WOs_append, WOs_slice, WOs_mx, WOs_mn, WOs_build, WOs_bslice, WOs_mkslice, WOs_alloc, WOs_lenA, WDs_mov, WDs_bin, WDs_call, evalQ_mov, evalQ_bin, evalQ_un, evalQ_pick, evalQ_toInt, evalQ_len, evalQ_load, evalQ_iaddr, evalQ_indexS, evalQ_extr, evalQ_field, evalQ_mx, evalQ_mn, evalQ_lenA, evalE_fn, evalE_append, evs_cons, evs_nil, ev_tmp, ev_lit, nth_zero, nth_succ, put_zero, put_succ, pickV_tt, pickV_ff, extrV_0, extrV_1, extrV_2, WOs_faddr, evalQ_faddr, faddrV_0, faddrV_1, faddrV_2, lds0, lds1, lds2, neg_i64, evalE_store, sts0, sts1, sts2, add_i64, en]
        refine next _ _ _ _ _ ?_ ?_
        · rw [es]; exact AHeap.get_set_same _ _ _
        · simp only [get10]; exact g1
      · by_cases s2 : A = nC A B C
        · by_cases s3 : nB A B < 0
          · have es : stp (A, B, C) = (nC A B C, -nB A B, A) := by unfold stp; dsimp only; rw [if_pos (.inr ⟨s2, s3⟩)]
            have s2' : (A = nC A B C) = True := eq_true s2
            simp (disch := omega) only [s1, s2', s3, decide_true, decide_false, WK_skip, WK_seq, WX_seq, WX_seq_exit, WX_seq_ret, WK_block, WX_block, WX_block_ret, WX_block_eq, WK_exit, WK_ret, WK_scope, WK_cond, WK_ops, WK_draw, WX_loop, WX_loop_exit, WX_loop_ret, WX_nil, WB_true, WB_false, WOs_nil, WDs_nil, WV_some, WA_some, WE_some, WDV_zero, WDE_none, putD_some, putD_none, WOs_g, WG_tt, WG_ff, WG_tf, WG_ft, WG_un, WOs_mov, WOs_bin, WOs_un, WOs_pick, WOs_toInt, WOs_len, WOs_load, WOs_iaddr, WOs_indexS, WOs_extr, WOs_field, WOs_toStr, WOs_call, WOs_store, WOs_append, WOs_slice, WOs_mx, WOs_mn, WOs_build, WOs_bslice, WOs_mkslice, WOs_alloc, WOs_lenA, WDs_mov, WDs_bin, WDs_call, evalQ_mov, evalQ_bin, evalQ_un, evalQ_pick, evalQ_toInt, evalQ_len, evalQ_load, evalQ_iaddr, evalQ_indexS, evalQ_extr, evalQ_field, evalQ_mx, evalQ_mn, evalQ_lenA, evalE_fn, evalE_append, evs_cons, evs_nil, ev_tmp, ev_lit, nth_zero, nth_succ, put_zero, put_succ, pickV_tt, pickV_ff, extrV_0, extrV_1, extrV_2, WOs_faddr, evalQ_faddr, faddrV_0, faddrV_1, faddrV_2, lds0, lds1, lds2, eql_int, lss_int, neg_i64, evalE_store, sts0, sts1, sts2, add_i64, en]
            refine next _ _ _ _ _ ?_ ?_
            · rw [es]; exact AHeap.get_set_same _ _ _
            · simp only [get10]; exact g1
          · have es : stp (A, B, C) = (A, nB A B, nC A B C) := by unfold stp; dsimp only; rw [if_neg (by omega)]
            have s2' : (A = nC A B C) = True := eq_true s2
            simp (disch := omega) only [s1, s2', s3, decide_true, decide_false, WK_skip, WK_seq, WX_seq, WX_seq_exit, WX_seq_ret, WK_block, WX_block, WX_block_ret, WX_block_eq, WK_exit, WK_ret, WK_scope, WK_cond, WK_ops, WK_draw, WX_loop, WX_loop_exit, WX_loop_ret, WX_nil, WB_true, WB_false, WOs_nil, WDs_nil, WV_some, WA_some, WE_some, WDV_zero, WDE_none, putD_some, putD_none, WOs_g, WG_tt, WG_ff, WG_tf, WG_ft, WG_un, WOs_mov, WOs_bin, WOs_un, WOs_pick, WOs_toInt, WOs_len, WOs_load, WOs_iaddr, WOs_indexS, WOs_extr, WOs_field, WOs_toStr, WOs_call, WOs_store, WOs_append, WOs_slice, WOs_mx, WOs_mn, WOs_build, WOs_bslice, WOs_mkslice, WOs_alloc, WOs_lenA, WDs_mov, WDs_bin, WDs_call, evalQ_mov, evalQ_bin, evalQ_un, evalQ_pick, evalQ_toInt, evalQ_len, evalQ_load, evalQ_iaddr, evalQ_indexS, evalQ_extr, evalQ_field, evalQ_mx, evalQ_mn, evalQ_lenA, evalE_fn, evalE_append, evs_cons, evs_nil, ev_tmp, ev_lit, nth_zero, nth_succ, put_zero, put_succ, pickV_tt, pickV_ff, extrV_0, extrV_1, extrV_2, WOs_faddr, evalQ_faddr, faddrV_0, faddrV_1, faddrV_2, lds0, lds1, lds2, eql_int, lss_int, add_i64, en]
            refine next _ _ _ _ _ ?_ ?_
            · rw [es]; exact AHeap.get_set_same _ _ _
            · simp only [get10]; exact g1
        · have es : stp (A, B, C) = (A, nB A B, nC A B C) := by unfold stp; dsimp only; rw [if_neg (by omega)]
          have s2' : (A = nC A B C) = False := eq_false s2
          simp (disch := omega) only [s1, s2', decide_false, WK_skip, WK_seq, WX_seq, WX_seq_exit, WX_seq_ret, WK_block, WX_block, WX_block_ret, WX_block_eq, WK_exit, WK_ret, WK_scope, WK_cond, WK_ops, WK_draw, WX_loop, WX_loop_exit, WX_loop_ret, WX_nil, WB_true, WB_false, WOs_nil, WDs_nil, WV_some, WA_some, WE_some, WDV_zero, WDE_none, putD_some, putD_none, WOs_g, WG_tt, WG_ff, WG_tf, WG_ft, WG_un, WOs_mov, WOs_bin, WOs_un, WOs_pick, WOs_toInt, WOs_len, WOs_load, WOs_iaddr, WOs_indexS, WOs_extr, WOs_field, WOs_toStr, WOs_call, WOs_store, WOs_append, WOs_slice, WOs_mx, WOs_mn, WOs_build, WOs_bslice, WOs_mkslice, WOs_alloc, WOs_lenA, WDs_mov, WDs_bin, WDs_call, evalQ_mov, evalQ_bin, evalQ_un, evalQ_pick, evalQ_toInt, evalQ_len, evalQ_load, evalQ_iaddr, evalQ_indexS, evalQ_extr, evalQ_field, evalQ_mx, evalQ_mn, evalQ_lenA, evalE_fn, evalE_append, evs_cons, evs_nil, ev_tmp, ev_lit, nth_zero, nth_succ, put_zero, put_succ, pickV_tt, pickV_ff, extrV_0, extrV_1, extrV_2, WOs_faddr, evalQ_faddr, faddrV_0, faddrV_1, faddrV_2, lds0, lds1, lds2, eql_int, add_i64, en]
          refine next _ _ _ _ _ ?_ ?_
          · rw [es]; exact AHeap.get_set_same _ _ _
          · simp only [get10]; exact g1
end
noncomputable def rredS : List AV → Option AV
  | [.agg [.int .i64 A, .int .i64 B, .int .i64 C]] => open Classical in if VF A B C then some (fVt (rd (A, B, C))) else none
  | _ => none
theorem rred_run {A B C : Int} (hv : VF A B C) : ∃ h', lim otab.get K4 (.fn 27) [fV A B C] .empty = some (fVt (rd (A, B, C)), h') := by
  refine run_of (fn := of27) rfl rfl ?_
  show WK _ _ [] ⟨[fV A B C, aundef, aundef, aundef, aundef, aundef, aundef], .empty⟩ _
  dsimp only [of27]
  have g0 : ((AHeap.empty.push (.cells (fC A B C) true)).push (.cells [.int .i64 0, .int .i64 0, .int .i64 0] true)).get 0 = some (.cells (fC A B C) true) := by
    rw [AHeap.get_push_lt _ _ (by simp)]; exact AHeap.get_push_same AHeap.empty _
  have g1 : ((AHeap.empty.push (.cells (fC A B C) true)).push (.cells [.int .i64 0, .int .i64 0, .int .i64 0] true)).get 1 = some (.cells [.int .i64 0, .int .i64 0, .int .i64 0] true) := AHeap.get_push_same (AHeap.empty.push (.cells (fC A B C) true)) _
  simp only [WK_skip, WK_seq, WX_seq, WX_seq_exit, WX_seq_ret, WK_block, WX_block, WX_block_ret, WX_block_eq, WK_exit, WK_ret, WK_scope, WK_cond, WK_ops, WK_draw, WX_loop, WX_loop_exit, WX_loop_ret, WX_nil, WB_true, WB_false, WOs_nil, WDs_nil, WV_some, WA_some, WE_some, WDV_zero, WDE_none, putD_some, putD_none, WOs_g, WG_tt, WG_ff, WG_tf, WG_ft, WG_un, WOs_mov, WOs_bin, WOs_un, WOs_pick, WOs_toInt, WOs_len, WOs_load, WOs_iaddr, WOs_indexS, WOs_extr, WOs_field, WOs_toStr, WOs_call, WOs_store, WOs_append, WOs_slice, WOs_mx, WOs_mn, WOs_build, WOs_bslice, WOs_mkslice, WOs_alloc, WOs_lenA, WDs_mov, WDs_bin, WDs_call, evalQ_mov, evalQ_bin, evalQ_un, evalQ_pick, evalQ_toInt, evalQ_len, evalQ_load, evalQ_iaddr, evalQ_indexS, evalQ_extr, evalQ_field, evalQ_mx, evalQ_mn, evalQ_lenA, evalE_fn, evalE_append, evs_cons, evs_nil, ev_tmp, ev_lit, nth_zero, nth_succ, put_zero, put_succ, pickV_tt, pickV_ff, extrV_0, extrV_1, extrV_2, WOs_box, evalA_box, cells_agg, evalA_alloc, AHeap.next_push, Nat.zero_add]
  refine rred_loop 30 0 (A, B, C) _ _ _ _ _ hv (reach hv) (by omega) g0 g1 fun h' z1 z2 z3 z4 z5 k0 k1 => ?_
  have k0' : h'.get 0 = some (.cells (fCt (rd (A, B, C))) true) := k0
  have hs := stV3 (x := .int .i64 (rd (A, B, C)).1) (y := .int .i64 (rd (A, B, C)).2.1) (z := .int .i64 (rd (A, B, C)).2.2) k1 rfl rfl rfl
  simp only [WK_skip, WK_seq, WX_seq, WX_seq_exit, WX_seq_ret, WK_block, WX_block, WX_block_ret, WX_block_eq, WK_exit, WK_ret, WK_scope, WK_cond, WK_ops, WK_draw, WX_loop, WX_loop_exit, WX_loop_ret, WX_nil, WB_true, WB_false, WOs_nil, WDs_nil, WV_some, WA_some, WE_some, WDV_zero, WDE_none, putD_some, putD_none, WOs_g, WG_tt, WG_ff, WG_tf, WG_ft, WG_un, WOs_mov, WOs_bin, WOs_un, WOs_pick, WOs_toInt, WOs_len, WOs_load, WOs_iaddr, WOs_indexS, WOs_extr, WOs_field, WOs_toStr, WOs_call, WOs_store, WOs_append, WOs_slice, WOs_mx, WOs_mn, WOs_build, WOs_bslice, WOs_mkslice, WOs_alloc, WOs_lenA, WDs_mov, WDs_bin, WDs_call, evalQ_mov, evalQ_bin, evalQ_un, evalQ_pick, evalQ_toInt, evalQ_len, evalQ_load, evalQ_iaddr, evalQ_indexS, evalQ_extr, evalQ_field, evalQ_mx, evalQ_mn, evalQ_lenA, evalE_fn, evalE_append, evs_cons, evs_nil, ev_tmp, ev_lit, nth_zero, nth_succ, put_zero, put_succ, pickV_tt, pickV_ff, extrV_0, extrV_1, extrV_2, ldS k0', evalE_store, hs, Ret_ret]
  exact result_cell ldsS
noncomputable def K5 : Oracle := ext K4 27 rredS
theorem K5_ok : IOK Go.Proofs.Try.prog K5 := IOK.extL mixed tabOK otabOK K4_ok (g := 27) (fn := af27) rfl fun args av h => by
  unfold rredS at h
  split at h
  · split at h
    · rename_i hn; cases h; exact ⟨rfl, rfl, rred_run hn⟩
    · cases h
  · cases h
end Go.AM
