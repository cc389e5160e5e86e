/- Sorting a list that is in order changes nothing: the sort itself. No condition. -/
import Derived.Test.YtemmnocgkgoegaaFrm4
set_option maxRecDepth 100000
set_option linter.unusedSimpArgs false
set_option linter.unusedVariables false
namespace Go.AM
open Go
theorem toIntV_u64 {k : IntKind} {n : Nat} (h2 : n ≤ 9223372036854775807) : toIntV .u64 (.int k (n : Int)) = some (.int .u64 (n : Int)) := by
  show some (AV.int .u64 ((n : Int) % 18446744073709551616)) = _
  rw [Int.emod_eq_of_lt (by omega) (by omega)]
def lenT : List Nat := [0, 1, 2, 2, 3, 3, 3, 3, 4, 4, 4, 4, 4, 4, 4, 4, 5, 5, 5, 5, 5, 5, 5, 5, 5, 5, 5, 5, 5, 5, 5, 5, 6, 6, 6, 6, 6, 6, 6, 6, 6, 6, 6, 6, 6, 6, 6, 6, 6, 6, 6, 6, 6, 6, 6, 6, 6, 6, 6, 6, 6, 6, 6, 6, 7, 7, 7, 7, 7, 7, 7, 7, 7, 7, 7, 7, 7, 7, 7, 7, 7, 7, 7, 7, 7, 7, 7, 7, 7, 7, 7, 7, 7, 7, 7, 7, 7, 7, 7, 7, 7, 7, 7, 7, 7, 7, 7, 7, 7, 7, 7, 7, 7, 7, 7, 7, 7, 7, 7, 7, 7, 7, 7, 7, 7, 7, 7, 7, 8, 8, 8, 8, 8, 8, 8, 8, 8, 8, 8, 8, 8, 8, 8, 8, 8, 8, 8, 8, 8, 8, 8, 8, 8, 8, 8, 8, 8, 8, 8, 8, 8, 8, 8, 8, 8, 8, 8, 8, 8, 8, 8, 8, 8, 8, 8, 8, 8, 8, 8, 8, 8, 8, 8, 8, 8, 8, 8, 8, 8, 8, 8, 8, 8, 8, 8, 8, 8, 8, 8, 8, 8, 8, 8, 8, 8, 8, 8, 8, 8, 8, 8, 8, 8, 8, 8, 8, 8, 8, 8, 8, 8, 8, 8, 8, 8, 8, 8, 8, 8, 8, 8, 8, 8, 8, 8, 8, 8, 8, 8, 8, 8, 8, 8, 8, 8, 8, 8, 8, 8, 8, 8, 8, 8, 8, 8, 8]
theorem lenT_fin : ∀ x : Fin 256, (lenT[x.1]?).getD 300 ≤ 8 ∧ (1 ≤ x.1 → 1 ≤ (lenT[x.1]?).getD 300) := by decide
theorem lenT_ok {x : Nat} (hx : x < 256) : ∃ v : Nat, indexSV (.str [0, 1, 2, 2, 3, 3, 3, 3, 4, 4, 4, 4, 4, 4, 4, 4, 5, 5, 5, 5, 5, 5, 5, 5, 5, 5, 5, 5, 5, 5, 5, 5, 6, 6, 6, 6, 6, 6, 6, 6, 6, 6, 6, 6, 6, 6, 6, 6, 6, 6, 6, 6, 6, 6, 6, 6, 6, 6, 6, 6, 6, 6, 6, 6, 7, 7, 7, 7, 7, 7, 7, 7, 7, 7, 7, 7, 7, 7, 7, 7, 7, 7, 7, 7, 7, 7, 7, 7, 7, 7, 7, 7, 7, 7, 7, 7, 7, 7, 7, 7, 7, 7, 7, 7, 7, 7, 7, 7, 7, 7, 7, 7, 7, 7, 7, 7, 7, 7, 7, 7, 7, 7, 7, 7, 7, 7, 7, 7, 8, 8, 8, 8, 8, 8, 8, 8, 8, 8, 8, 8, 8, 8, 8, 8, 8, 8, 8, 8, 8, 8, 8, 8, 8, 8, 8, 8, 8, 8, 8, 8, 8, 8, 8, 8, 8, 8, 8, 8, 8, 8, 8, 8, 8, 8, 8, 8, 8, 8, 8, 8, 8, 8, 8, 8, 8, 8, 8, 8, 8, 8, 8, 8, 8, 8, 8, 8, 8, 8, 8, 8, 8, 8, 8, 8, 8, 8, 8, 8, 8, 8, 8, 8, 8, 8, 8, 8, 8, 8, 8, 8, 8, 8, 8, 8, 8, 8, 8, 8, 8, 8, 8, 8, 8, 8, 8, 8, 8, 8, 8, 8, 8, 8, 8, 8, 8, 8, 8, 8, 8, 8, 8, 8, 8, 8, 8, 8]) (.int .u8 (x : Int)) = some (.int .u8 (v : Int)) ∧ v ≤ 8 ∧ (1 ≤ x → 1 ≤ v) := by
  obtain ⟨h1, h2⟩ := lenT_fin ⟨x, hx⟩
  show ∃ v : Nat, indexSV (.str lenT) (.int .u8 (x : Int)) = some (.int .u8 (v : Int)) ∧ v ≤ 8 ∧ (1 ≤ x → 1 ≤ v)
  have e : indexSV (.str lenT) (.int .u8 (x : Int)) = (match lenT[x]? with | some b => some (.int .u8 b) | none => none) := by
    show (if 0 ≤ (x : Int) then match lenT[(x : Int).toNat]? with | some b => some (AV.int .u8 b) | none => none else none) = _
    rw [if_pos (by omega), Int.toNat_natCast]
  cases hv : lenT[x]? with
  | none => simp only [hv, Option.getD] at h1; omega
  | some b =>
    simp only [hv, Option.getD] at h1 h2
    rw [hv] at e
    exact ⟨b, e, h1, h2⟩
theorem shr_8 {e : EqK} (x : Nat) : bin .shr e (.int .u64 (x : Int)) (.int .u64 8) = some (.int .u64 ((x / 256 : Nat) : Int)) := shr_u64 x 8 (by decide)
theorem len64_ok {h : AHeap} {n : Nat} (hn : n < 65536) : ∃ v : Int, lim otab.get L8 (.fn 103) [.int .u64 (n : Int)] h = some (.int .i64 v, h) ∧ 0 ≤ v ∧ v ≤ 16 ∧ (1 ≤ n → v ≠ 0) := by
  have a1 : ¬ (4294967296 : Int) ≤ (n : Int) := by omega
  have a2 : ¬ (65536 : Int) ≤ (n : Int) := by omega
  have z8 : (0 : Int) + 8 = 8 := by decide
  by_cases a3 : (256 : Int) ≤ (n : Int)
  · obtain ⟨v, hv, v1, v2⟩ := lenT_ok (x := n / 256) (by omega)
    refine ⟨8 + v, ?_, by omega, by omega, by omega⟩
    refine runH (fn := of103) rfl rfl ?_
    show WK _ _ [] ⟨[.int .u64 (n : Int), aundef, aundef], h⟩ _
    dsimp only [of103]
    have e1 : n / 256 % 256 = n / 256 := Nat.mod_eq_of_lt (by omega)
    simp (disch := omega) only [WK_skip, WK_seq, WX_seq, WX_seq_exit, WX_seq_ret, WK_block, WX_block, WX_block_ret, WX_block_eq, WK_exit, WK_ret, WK_scope, WK_cond, WK_ops, WK_draw, WX_loop, WX_loop_exit, WX_loop_ret, WX_nil, WB_true, WB_false, WOs_nil, WDs_nil, WV_some, WA_some, WE_some, WDV_zero, WDE_none, putD_some, putD_none, WOs_g, WG_tt, WG_ff, WG_tf, WG_ft, WG_un, WOs_mov, WOs_bin, WOs_un, WOs_pick, WOs_toInt, WOs_len, WOs_load, WOs_iaddr, WOs_indexS, WOs_extr, WOs_field, WOs_toStr, WOs_call, WOs_store, WOs_append, WOs_slice, WOs_mx, WOs_mn, WOs_build, WOs_bslice, WOs_mkslice, WOs_alloc, WOs_lenA, WDs_mov, WDs_bin, WDs_call, evalQ_mov, evalQ_bin, evalQ_un, evalQ_pick, evalQ_toInt, evalQ_len, evalQ_load, evalQ_iaddr, evalQ_indexS, evalQ_extr, evalQ_field, evalQ_mx, evalQ_mn, evalQ_lenA, evalE_fn, evalE_append, evs_cons, evs_nil, ev_tmp, ev_lit, nth_zero, nth_succ, put_zero, put_succ, pickV_tt, pickV_ff, extrV_0, extrV_1, extrV_2, geq_int, a1, a2, a3, decide_true, decide_false, shr_8, add_i64, z8, toIntV_u8, e1, hv, toIntV_i64, RetH_ret, result_1, and_self]
  · obtain ⟨v, hv, v1, v2⟩ := lenT_ok (x := n) (by omega)
    refine ⟨v, ?_, by omega, by omega, by omega⟩
    refine runH (fn := of103) rfl rfl ?_
    show WK _ _ [] ⟨[.int .u64 (n : Int), aundef, aundef], h⟩ _
    dsimp only [of103]
    have e1 : n % 256 = n := Nat.mod_eq_of_lt (by omega)
    have e2 : (0 : Int) + (v : Int) = v := by omega
    simp (disch := omega) only [WK_skip, WK_seq, WX_seq, WX_seq_exit, WX_seq_ret, WK_block, WX_block, WX_block_ret, WX_block_eq, WK_exit, WK_ret, WK_scope, WK_cond, WK_ops, WK_draw, WX_loop, WX_loop_exit, WX_loop_ret, WX_nil, WB_true, WB_false, WOs_nil, WDs_nil, WV_some, WA_some, WE_some, WDV_zero, WDE_none, putD_some, putD_none, WOs_g, WG_tt, WG_ff, WG_tf, WG_ft, WG_un, WOs_mov, WOs_bin, WOs_un, WOs_pick, WOs_toInt, WOs_len, WOs_load, WOs_iaddr, WOs_indexS, WOs_extr, WOs_field, WOs_toStr, WOs_call, WOs_store, WOs_append, WOs_slice, WOs_mx, WOs_mn, WOs_build, WOs_bslice, WOs_mkslice, WOs_alloc, WOs_lenA, WDs_mov, WDs_bin, WDs_call, evalQ_mov, evalQ_bin, evalQ_un, evalQ_pick, evalQ_toInt, evalQ_len, evalQ_load, evalQ_iaddr, evalQ_indexS, evalQ_extr, evalQ_field, evalQ_mx, evalQ_mn, evalQ_lenA, evalE_fn, evalE_append, evs_cons, evs_nil, ev_tmp, ev_lit, nth_zero, nth_succ, put_zero, put_succ, pickV_tt, pickV_ff, extrV_0, extrV_1, extrV_2, geq_int, a1, a2, a3, decide_true, decide_false, shr_8, add_i64, e2, toIntV_u8, e1, hv, toIntV_i64, RetH_ret, result_1, and_self]
theorem len_ok {h : AHeap} {n : Nat} (hn : n < 65536) : ∃ v : Int, lim otab.get L8 (.fn 82) [.int .u64 (n : Int)] h = some (.int .i64 v, h) ∧ 0 ≤ v ∧ v ≤ 16 ∧ (1 ≤ n → v ≠ 0) := by
  obtain ⟨v, e, hv⟩ := len64_ok (h := h) hn
  refine ⟨v, ?_, hv⟩
  refine runH (fn := of82) rfl rfl ?_
  show WK _ _ [] ⟨[.int .u64 (n : Int), aundef], h⟩ _
  dsimp only [of82]
  simp only [WK_skip, WK_seq, WX_seq, WX_seq_exit, WX_seq_ret, WK_block, WX_block, WX_block_ret, WX_block_eq, WK_exit, WK_ret, WK_scope, WK_cond, WK_ops, WK_draw, WX_loop, WX_loop_exit, WX_loop_ret, WX_nil, WB_true, WB_false, WOs_nil, WDs_nil, WV_some, WA_some, WE_some, WDV_zero, WDE_none, putD_some, putD_none, WOs_g, WG_tt, WG_ff, WG_tf, WG_ft, WG_un, WOs_mov, WOs_bin, WOs_un, WOs_pick, WOs_toInt, WOs_len, WOs_load, WOs_iaddr, WOs_indexS, WOs_extr, WOs_field, WOs_toStr, WOs_call, WOs_store, WOs_append, WOs_slice, WOs_mx, WOs_mn, WOs_build, WOs_bslice, WOs_mkslice, WOs_alloc, WOs_lenA, WDs_mov, WDs_bin, WDs_call, evalQ_mov, evalQ_bin, evalQ_un, evalQ_pick, evalQ_toInt, evalQ_len, evalQ_load, evalQ_iaddr, evalQ_indexS, evalQ_extr, evalQ_field, evalQ_mx, evalQ_mn, evalQ_lenA, evalE_fn, evalE_append, evs_cons, evs_nil, ev_tmp, ev_lit, nth_zero, nth_succ, put_zero, put_succ, pickV_tt, pickV_ff, extrV_0, extrV_1, extrV_2, e, RetH_ret, result_1, and_self]
section
variable {h : AHeap} {j : Nat} {L : List F3}
theorem sort0 : lim otab.get L8 (.fn 94) [.nils, .int .i64 0, .int .i64 0, cmpF] h = some (.tup [], h) := by
  refine runH (fn := of94) rfl rfl ?_
  show WK _ _ [] ⟨[.nils, .int .i64 0, .int .i64 0, cmpF, aundef, aundef, aundef, aundef, aundef, aundef, aundef], h⟩ _
  dsimp only [of94]
  simp (disch := omega) only [WK_skip, WK_seq, WX_seq, WX_seq_exit, WX_seq_ret, WK_block, WX_block, WX_block_ret, WX_block_eq, WK_exit, WK_ret, WK_scope, WK_cond, WK_ops, WK_draw, WX_loop, WX_loop_exit, WX_loop_ret, WX_nil, WB_true, WB_false, WOs_nil, WDs_nil, WV_some, WA_some, WE_some, WDV_zero, WDE_none, putD_some, putD_none, WOs_g, WG_tt, WG_ff, WG_tf, WG_ft, WG_un, WOs_mov, WOs_bin, WOs_un, WOs_pick, WOs_toInt, WOs_len, WOs_load, WOs_iaddr, WOs_indexS, WOs_extr, WOs_field, WOs_toStr, WOs_call, WOs_store, WOs_append, WOs_slice, WOs_mx, WOs_mn, WOs_build, WOs_bslice, WOs_mkslice, WOs_alloc, WOs_lenA, WDs_mov, WDs_bin, WDs_call, evalQ_mov, evalQ_bin, evalQ_un, evalQ_pick, evalQ_toInt, evalQ_len, evalQ_load, evalQ_iaddr, evalQ_indexS, evalQ_extr, evalQ_field, evalQ_mx, evalQ_mn, evalQ_lenA, evalE_fn, evalE_append, evs_cons, evs_nil, ev_tmp, ev_lit, nth_zero, nth_succ, put_zero, put_succ, pickV_tt, pickV_ff, extrV_0, extrV_1, extrV_2, add_i64]
  refine WK_loop ?_
  simp only [WK_skip, WK_seq, WX_seq, WX_seq_exit, WX_seq_ret, WK_block, WX_block, WX_block_ret, WX_block_eq, WK_exit, WK_ret, WK_scope, WK_cond, WK_ops, WK_draw, WX_loop, WX_loop_exit, WX_loop_ret, WX_nil, WB_true, WB_false, WOs_nil, WDs_nil, WV_some, WA_some, WE_some, WDV_zero, WDE_none, putD_some, putD_none, WOs_g, WG_tt, WG_ff, WG_tf, WG_ft, WG_un, WOs_mov, WOs_bin, WOs_un, WOs_pick, WOs_toInt, WOs_len, WOs_load, WOs_iaddr, WOs_indexS, WOs_extr, WOs_field, WOs_toStr, WOs_call, WOs_store, WOs_append, WOs_slice, WOs_mx, WOs_mn, WOs_build, WOs_bslice, WOs_mkslice, WOs_alloc, WOs_lenA, WDs_mov, WDs_bin, WDs_call, evalQ_mov, evalQ_bin, evalQ_un, evalQ_pick, evalQ_toInt, evalQ_len, evalQ_load, evalQ_iaddr, evalQ_indexS, evalQ_extr, evalQ_field, evalQ_mx, evalQ_mn, evalQ_lenA, evalE_fn, evalE_append, evs_cons, evs_nil, ev_tmp, ev_lit, nth_zero, nth_succ, put_zero, put_succ, pickV_tt, pickV_ff, extrV_0, extrV_1, extrV_2, lss_int, show decide ((0 : Int) + 1 < 0) = false from rfl, RetH_normal, result_0, and_self]
theorem pdq_nil (v : Int) : lim otab.get L8 (.fn 81) [.nils, .int .i64 0, .int .i64 0, .int .i64 v, cmpF] h = some (.tup [], h) := by
  refine runH (fn := of81) rfl rfl ?_
  show WK _ _ [] ⟨[.nils, .int .i64 0, .int .i64 0, .int .i64 v, cmpF, aundef, aundef, aundef, aundef, aundef, aundef, aundef, aundef, aundef], h⟩ _
  dsimp only [of81]
  simp only [WK_skip, WK_seq, WX_seq, WX_seq_exit, WX_seq_ret, WK_block, WX_block, WX_block_ret, WX_block_eq, WK_exit, WK_ret, WK_scope, WK_cond, WK_ops, WK_draw, WX_loop, WX_loop_exit, WX_loop_ret, WX_nil, WB_true, WB_false, WOs_nil, WDs_nil, WV_some, WA_some, WE_some, WDV_zero, WDE_none, putD_some, putD_none, WOs_g, WG_tt, WG_ff, WG_tf, WG_ft, WG_un, WOs_mov, WOs_bin, WOs_un, WOs_pick, WOs_toInt, WOs_len, WOs_load, WOs_iaddr, WOs_indexS, WOs_extr, WOs_field, WOs_toStr, WOs_call, WOs_store, WOs_append, WOs_slice, WOs_mx, WOs_mn, WOs_build, WOs_bslice, WOs_mkslice, WOs_alloc, WOs_lenA, WDs_mov, WDs_bin, WDs_call, evalQ_mov, evalQ_bin, evalQ_un, evalQ_pick, evalQ_toInt, evalQ_len, evalQ_load, evalQ_iaddr, evalQ_indexS, evalQ_extr, evalQ_field, evalQ_mx, evalQ_mn, evalQ_lenA, evalE_fn, evalE_append, evs_cons, evs_nil, ev_tmp, ev_lit, nth_zero, nth_succ, put_zero, put_succ, pickV_tt, pickV_ff, extrV_0, extrV_1, extrV_2]
  refine WK_loop ?_
  simp (disch := omega) only [WK_skip, WK_seq, WX_seq, WX_seq_exit, WX_seq_ret, WK_block, WX_block, WX_block_ret, WX_block_eq, WK_exit, WK_ret, WK_scope, WK_cond, WK_ops, WK_draw, WX_loop, WX_loop_exit, WX_loop_ret, WX_nil, WB_true, WB_false, WOs_nil, WDs_nil, WV_some, WA_some, WE_some, WDV_zero, WDE_none, putD_some, putD_none, WOs_g, WG_tt, WG_ff, WG_tf, WG_ft, WG_un, WOs_mov, WOs_bin, WOs_un, WOs_pick, WOs_toInt, WOs_len, WOs_load, WOs_iaddr, WOs_indexS, WOs_extr, WOs_field, WOs_toStr, WOs_call, WOs_store, WOs_append, WOs_slice, WOs_mx, WOs_mn, WOs_build, WOs_bslice, WOs_mkslice, WOs_alloc, WOs_lenA, WDs_mov, WDs_bin, WDs_call, evalQ_mov, evalQ_bin, evalQ_un, evalQ_pick, evalQ_toInt, evalQ_len, evalQ_load, evalQ_iaddr, evalQ_indexS, evalQ_extr, evalQ_field, evalQ_mx, evalQ_mn, evalQ_lenA, evalE_fn, evalE_append, evs_cons, evs_nil, ev_tmp, ev_lit, nth_zero, nth_succ, put_zero, put_succ, pickV_tt, pickV_ff, extrV_0, extrV_1, extrV_2, sub_i64, leq_int, show decide ((0 : Int) - 0 ≤ 12) = true from rfl, sort0, RetH_ret, result_0, and_self]
/-- the heap after sorting: an object more, or none -/
noncomputable def sorted (h : AHeap) (n : Nat) : AHeap := if n ≤ 12 then h else h.push (.cells [.int .i64 0] true)
theorem pdq_ok (S : Srt L) (hj : j < h.next) (hc : cellsOf h j = some (flat3 L)) (h1 : 1 ≤ L.length) {v : Int} (hv : v ≠ 0) : lim otab.get L8 (.fn 81) [sV j L.length, .int .i64 0, .int .i64 (L.length : Int), .int .i64 v, cmpF] h = some (.tup [], sorted h L.length) := by
  refine runH (fn := of81) rfl rfl ?_
  show WK _ _ [] ⟨[sV j L.length, .int .i64 0, .int .i64 (L.length : Int), .int .i64 v, cmpF, aundef, aundef, aundef, aundef, aundef, aundef, aundef, aundef, aundef], h⟩ _
  dsimp only [of81]
  have hn := S.n
  have e0 : (L.length : Int) - 0 = (L.length : Int) := by omega
  simp only [WK_skip, WK_seq, WX_seq, WX_seq_exit, WX_seq_ret, WK_block, WX_block, WX_block_ret, WX_block_eq, WK_exit, WK_ret, WK_scope, WK_cond, WK_ops, WK_draw, WX_loop, WX_loop_exit, WX_loop_ret, WX_nil, WB_true, WB_false, WOs_nil, WDs_nil, WV_some, WA_some, WE_some, WDV_zero, WDE_none, putD_some, putD_none, WOs_g, WG_tt, WG_ff, WG_tf, WG_ft, WG_un, WOs_mov, WOs_bin, WOs_un, WOs_pick, WOs_toInt, WOs_len, WOs_load, WOs_iaddr, WOs_indexS, WOs_extr, WOs_field, WOs_toStr, WOs_call, WOs_store, WOs_append, WOs_slice, WOs_mx, WOs_mn, WOs_build, WOs_bslice, WOs_mkslice, WOs_alloc, WOs_lenA, WDs_mov, WDs_bin, WDs_call, evalQ_mov, evalQ_bin, evalQ_un, evalQ_pick, evalQ_toInt, evalQ_len, evalQ_load, evalQ_iaddr, evalQ_indexS, evalQ_extr, evalQ_field, evalQ_mx, evalQ_mn, evalQ_lenA, evalE_fn, evalE_append, evs_cons, evs_nil, ev_tmp, ev_lit, nth_zero, nth_succ, put_zero, put_succ, pickV_tt, pickV_ff, extrV_0, extrV_1, extrV_2]
  refine WK_loop ?_
  by_cases e : L.length ≤ 12
  · have e1 : (L.length : Int) ≤ 12 := by omega
    have e2 : sorted h L.length = h := if_pos e
    simp (disch := omega) only [WK_skip, WK_seq, WX_seq, WX_seq_exit, WX_seq_ret, WK_block, WX_block, WX_block_ret, WX_block_eq, WK_exit, WK_ret, WK_scope, WK_cond, WK_ops, WK_draw, WX_loop, WX_loop_exit, WX_loop_ret, WX_nil, WB_true, WB_false, WOs_nil, WDs_nil, WV_some, WA_some, WE_some, WDV_zero, WDE_none, putD_some, putD_none, WOs_g, WG_tt, WG_ff, WG_tf, WG_ft, WG_un, WOs_mov, WOs_bin, WOs_un, WOs_pick, WOs_toInt, WOs_len, WOs_load, WOs_iaddr, WOs_indexS, WOs_extr, WOs_field, WOs_toStr, WOs_call, WOs_store, WOs_append, WOs_slice, WOs_mx, WOs_mn, WOs_build, WOs_bslice, WOs_mkslice, WOs_alloc, WOs_lenA, WDs_mov, WDs_bin, WDs_call, evalQ_mov, evalQ_bin, evalQ_un, evalQ_pick, evalQ_toInt, evalQ_len, evalQ_load, evalQ_iaddr, evalQ_indexS, evalQ_extr, evalQ_field, evalQ_mx, evalQ_mn, evalQ_lenA, evalE_fn, evalE_append, evs_cons, evs_nil, ev_tmp, ev_lit, nth_zero, nth_succ, put_zero, put_succ, pickV_tt, pickV_ff, extrV_0, extrV_1, extrV_2, sub_i64, e0, leq_int, e1, decide_true, ins_spec S hc h1, RetH_ret, result_0, and_self, e2]
  · have e1 : ¬ (L.length : Int) ≤ 12 := by omega
    have e2 : sorted h L.length = h.push (.cells [.int .i64 0] true) := if_neg e
    obtain ⟨w, hw⟩ := pivot_spec S hj hc (by omega)
    have hc1 : cellsOf (h.push (.cells [.int .i64 0] true)) j = some (flat3 L) := by rw [cellsOf_push_ne hj]; exact hc
    simp (disch := omega) only [WK_skip, WK_seq, WX_seq, WX_seq_exit, WX_seq_ret, WK_block, WX_block, WX_block_ret, WX_block_eq, WK_exit, WK_ret, WK_scope, WK_cond, WK_ops, WK_draw, WX_loop, WX_loop_exit, WX_loop_ret, WX_nil, WB_true, WB_false, WOs_nil, WDs_nil, WV_some, WA_some, WE_some, WDV_zero, WDE_none, putD_some, putD_none, WOs_g, WG_tt, WG_ff, WG_tf, WG_ft, WG_un, WOs_mov, WOs_bin, WOs_un, WOs_pick, WOs_toInt, WOs_len, WOs_load, WOs_iaddr, WOs_indexS, WOs_extr, WOs_field, WOs_toStr, WOs_call, WOs_store, WOs_append, WOs_slice, WOs_mx, WOs_mn, WOs_build, WOs_bslice, WOs_mkslice, WOs_alloc, WOs_lenA, WDs_mov, WDs_bin, WDs_call, evalQ_mov, evalQ_bin, evalQ_un, evalQ_pick, evalQ_toInt, evalQ_len, evalQ_load, evalQ_iaddr, evalQ_indexS, evalQ_extr, evalQ_field, evalQ_mx, evalQ_mn, evalQ_lenA, evalE_fn, evalE_append, evs_cons, evs_nil, ev_tmp, ev_lit, nth_zero, nth_succ, put_zero, put_succ, pickV_tt, pickV_ff, extrV_0, extrV_1, extrV_2, sub_i64, e0, leq_int, e1, decide_false, decide_true, eql_int, hv, not_bool, Bool.not_true, hw, show decide ((1 : Int) = 2) = false from rfl, show decide ((1 : Int) = 1) = true from rfl, par_spec S hc1 h1, RetH_ret, result_0, and_self, e2]
theorem sort_nil : lim otab.get L8 (.fn 56) [.nils, cmpF] h = some (.tup [], h) := by
  obtain ⟨v, hv, _⟩ := len_ok (h := h) (n := 0) (by decide)
  refine runH (fn := of56) rfl rfl ?_
  show WK _ _ [] ⟨[.nils, cmpF, aundef, aundef], h⟩ _
  dsimp only [of56]
  have l0 : lenV 1 .nils h = some (.int .i64 ((0 : Nat) : Int)) := rfl
  simp (disch := omega) only [WK_skip, WK_seq, WX_seq, WX_seq_exit, WX_seq_ret, WK_block, WX_block, WX_block_ret, WX_block_eq, WK_exit, WK_ret, WK_scope, WK_cond, WK_ops, WK_draw, WX_loop, WX_loop_exit, WX_loop_ret, WX_nil, WB_true, WB_false, WOs_nil, WDs_nil, WV_some, WA_some, WE_some, WDV_zero, WDE_none, putD_some, putD_none, WOs_g, WG_tt, WG_ff, WG_tf, WG_ft, WG_un, WOs_mov, WOs_bin, WOs_un, WOs_pick, WOs_toInt, WOs_len, WOs_load, WOs_iaddr, WOs_indexS, WOs_extr, WOs_field, WOs_toStr, WOs_call, WOs_store, WOs_append, WOs_slice, WOs_mx, WOs_mn, WOs_build, WOs_bslice, WOs_mkslice, WOs_alloc, WOs_lenA, WDs_mov, WDs_bin, WDs_call, evalQ_mov, evalQ_bin, evalQ_un, evalQ_pick, evalQ_toInt, evalQ_len, evalQ_load, evalQ_iaddr, evalQ_indexS, evalQ_extr, evalQ_field, evalQ_mx, evalQ_mn, evalQ_lenA, evalE_fn, evalE_append, evs_cons, evs_nil, ev_tmp, ev_lit, nth_zero, nth_succ, put_zero, put_succ, pickV_tt, pickV_ff, extrV_0, extrV_1, extrV_2, l0, toIntV_u64, hv]
  rw [show ((0 : Nat) : Int) = 0 from rfl]
  simp only [WK_skip, WK_seq, WX_seq, WX_seq_exit, WX_seq_ret, WK_block, WX_block, WX_block_ret, WX_block_eq, WK_exit, WK_ret, WK_scope, WK_cond, WK_ops, WK_draw, WX_loop, WX_loop_exit, WX_loop_ret, WX_nil, WB_true, WB_false, WOs_nil, WDs_nil, WV_some, WA_some, WE_some, WDV_zero, WDE_none, putD_some, putD_none, WOs_g, WG_tt, WG_ff, WG_tf, WG_ft, WG_un, WOs_mov, WOs_bin, WOs_un, WOs_pick, WOs_toInt, WOs_len, WOs_load, WOs_iaddr, WOs_indexS, WOs_extr, WOs_field, WOs_toStr, WOs_call, WOs_store, WOs_append, WOs_slice, WOs_mx, WOs_mn, WOs_build, WOs_bslice, WOs_mkslice, WOs_alloc, WOs_lenA, WDs_mov, WDs_bin, WDs_call, evalQ_mov, evalQ_bin, evalQ_un, evalQ_pick, evalQ_toInt, evalQ_len, evalQ_load, evalQ_iaddr, evalQ_indexS, evalQ_extr, evalQ_field, evalQ_mx, evalQ_mn, evalQ_lenA, evalE_fn, evalE_append, evs_cons, evs_nil, ev_tmp, ev_lit, nth_zero, nth_succ, put_zero, put_succ, pickV_tt, pickV_ff, extrV_0, extrV_1, extrV_2, pdq_nil, RetH_normal, result_0, and_self]
theorem sort_ok (S : Srt L) (hj : j < h.next) (hc : cellsOf h j = some (flat3 L)) (h1 : 1 ≤ L.length) : lim otab.get L8 (.fn 56) [sV j L.length, cmpF] h = some (.tup [], sorted h L.length) := by
  have hn := S.n
  obtain ⟨v, hv, v1, v2, v3⟩ := len_ok (h := h) (n := L.length) (by omega)
  have hv0 := v3 h1
  refine runH (fn := of56) rfl rfl ?_
  show WK _ _ [] ⟨[sV j L.length, cmpF, aundef, aundef], h⟩ _
  dsimp only [of56]
  have l0 : lenV 1 (sV j L.length) h = some (.int .i64 (L.length : Int)) := rfl
  simp (disch := omega) only [WK_skip, WK_seq, WX_seq, WX_seq_exit, WX_seq_ret, WK_block, WX_block, WX_block_ret, WX_block_eq, WK_exit, WK_ret, WK_scope, WK_cond, WK_ops, WK_draw, WX_loop, WX_loop_exit, WX_loop_ret, WX_nil, WB_true, WB_false, WOs_nil, WDs_nil, WV_some, WA_some, WE_some, WDV_zero, WDE_none, putD_some, putD_none, WOs_g, WG_tt, WG_ff, WG_tf, WG_ft, WG_un, WOs_mov, WOs_bin, WOs_un, WOs_pick, WOs_toInt, WOs_len, WOs_load, WOs_iaddr, WOs_indexS, WOs_extr, WOs_field, WOs_toStr, WOs_call, WOs_store, WOs_append, WOs_slice, WOs_mx, WOs_mn, WOs_build, WOs_bslice, WOs_mkslice, WOs_alloc, WOs_lenA, WDs_mov, WDs_bin, WDs_call, evalQ_mov, evalQ_bin, evalQ_un, evalQ_pick, evalQ_toInt, evalQ_len, evalQ_load, evalQ_iaddr, evalQ_indexS, evalQ_extr, evalQ_field, evalQ_mx, evalQ_mn, evalQ_lenA, evalE_fn, evalE_append, evs_cons, evs_nil, ev_tmp, ev_lit, nth_zero, nth_succ, put_zero, put_succ, pickV_tt, pickV_ff, extrV_0, extrV_1, extrV_2, l0, toIntV_u64, hv, pdq_ok S hj hc h1 hv0, RetH_normal, result_0, and_self]
/-- a list in order, sorted: the same list -/
theorem LI.sort {h0 h : AHeap} {b : AV} (S : Srt L) (H : LI h0 h b L) : ∃ h', lim otab.get L8 (.fn 56) [b, cmpF] h = some (.tup [], h') ∧ LI h0 h' b L := by
  rcases H.val with ⟨e1, e2⟩ | ⟨i, e1, e2, e3, e4, e5⟩
  · subst e1; exact ⟨h, sort_nil, H⟩
  · subst e1
    have h1 : 1 ≤ L.length := by cases L with | nil => exact absurd rfl e2 | cons _ _ => simp
    refine ⟨_, sort_ok S e4 (by unfold cellsOf; rw [e5]) h1, ?_⟩
    unfold sorted
    split
    · exact H
    · exact H.push _
end
end Go.AM
