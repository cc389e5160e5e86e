/- QuadraticReduces: the law's code answers true. No condition. -/
import Derived.Test.YtemmnocgkgoegaaRed5
set_option maxRecDepth 100000
set_option linter.unusedSimpArgs false
namespace Go.AM
open Go
section
variable {C : CallT} {K : List Fr} {Q : AX → St → Prop} {op : AOp} {m : Nat} {d : Option Nat} {r : List (AOper × Nat)} {ps : List ((AHeap → Bool) × Nat)} {tm : List AV} {h : AHeap}
def lowerIf (op : AOp) (ps : List ((AHeap → Bool) × Nat)) : List ((AHeap → Bool) × Nat) := match op.cls with | .e => lower ps | _ => ps
def WDG (C : CallT) (v : AV) (b : Bool) (d : Option Nat) (op : AOp) (m : Nat) (r : List (AOper × Nat)) (ps : List ((AHeap → Bool) × Nat)) (K : List Fr) (tm : List AV) (h : AHeap) (Q : AX → St → Prop) : Prop := match v with
  | .bool c => if (c == b) = true then WDs C ((⟨d, op, none⟩, m) :: r) ps K ⟨tm, h⟩ Q else WDs C r (lowerIf op ps) K ⟨putD tm d aundef, h⟩ Q
  | _ => WDs C r (lowerIf op ps) K ⟨putD tm d aundef, h⟩ Q
theorem WDG_tt : WDG C (.bool true) true d op m r ps K tm h Q ↔ WDs C ((⟨d, op, none⟩, m) :: r) ps K ⟨tm, h⟩ Q := by simp [WDG]
theorem WDs_g {t : Nat} {b : Bool} : WDs C ((⟨d, op, some (t, b)⟩, m) :: r) ps K ⟨tm, h⟩ Q ↔ WDG C (nth tm t) b d op m r ps K tm h Q := by
  have e : runDraw ((⟨d, op, some (t, b)⟩, m) :: r) C ⟨tm, h⟩ ps = if wanted tm (some (t, b)) = true then runDraw ((⟨d, op, none⟩, m) :: r) C ⟨tm, h⟩ ps else runDraw r C ⟨putD tm d aundef, h⟩ (lowerIf op ps) := by
    rw [runDraw_cons, runDraw_cons]
    by_cases hw : wanted tm (some (t, b)) = true
    · rw [if_pos hw, if_pos hw, if_pos (show wanted tm none = true from rfl)]
      cases hc : op.cls with
      | q => rw [step1_q hc, step1_q hc]; rfl
      | a => rw [step1_a hc, step1_a hc]; rfl
      | e => rw [step1_e hc, step1_e hc]
    · rw [if_neg hw, if_neg hw]; rfl
  have e2 : wanted tm (some (t, b)) = (match nth tm t with | .bool c => c == b | _ => false) := rfl
  unfold WDs
  rw [e, e2]
  generalize nth tm t = v
  cases v with
  | bool c =>
    show (∃ s', (if (c == b) = true then _ else _) = some s' ∧ _) ↔ (if (c == b) = true then _ else _)
    by_cases hc : (c == b) = true
    · rw [if_pos hc, if_pos hc]; exact Iff.rfl
    · rw [if_neg hc, if_neg hc]; exact Iff.rfl
  | _ => exact Iff.rfl
end
section
variable {h : AHeap} {A B C : Int}
theorem c_aw7 : lim otab.get K7 (.fn 17) [] h = some (.bool true, h) := lim_oracle rfl
theorem c_red7 : lim otab.get K7 (.fn 25) [fV A B C] h = some (redV A B C, h) := lim_oracle rfl
theorem c_large7 {n : Int} : lim otab.get K7 (.fn 16) [.int .i64 n] h = some (.int .i64 (lg n), h) := lim_oracle rfl
theorem c_pos7 (ha : lim5 A) (hb : lim5 B) (hc : lim5 C) : lim otab.get K7 (.fn 26) [fV A B C] h = some (.bool (decide (B * B - 4 * A * C < 0 ∧ 0 < A)), h) :=
  lim_oracle (or_hit (spec := posS) (if_pos ⟨ha, hb, hc⟩))
theorem c_rred7 (hv : VF A B C) : lim otab.get K7 (.fn 27) [fV A B C] h = some (fVt (rd (A, B, C)), h) :=
  lim_oracle (or_hit (spec := rredS) (if_pos hv))
end
theorem mx3 {A B C : Int} : maxs (.int .i64 (lg A)) [.int .i64 (lg B), .int .i64 (lg C)] = some (.int .i64 (bd [A, B, C])) := by
  simp only [bd]
  rcases lg_cases A with ⟨h1, _⟩ | ⟨h1, _⟩ <;> rcases lg_cases B with ⟨h2, _⟩ | ⟨h2, _⟩ <;> rcases lg_cases C with ⟨h3, _⟩ | ⟨h3, _⟩ <;> rw [h1, h2, h3] <;> rfl
theorem redLaw (A B C : Int) : ∃ h', lim otab.get K7 (.fn 6) [fV A B C] .empty = some (.bool true, h') := by
  refine run_of (fn := of6) rfl rfl ?_
  show WK _ _ [] ⟨[fV A B C, aundef, aundef, aundef, aundef, aundef], .empty⟩ _
  dsimp only [of6]
  obtain ⟨H, hH⟩ : ∃ H, H = AHeap.empty.push (.cells (fC A B C) true) := ⟨_, rfl⟩
  have g0 : H.get 0 = some (.cells (fC A B C) true) := by rw [hH]; exact AHeap.get_push_same AHeap.empty _
  have hnx : H.next = 1 := by rw [hH]; rfl
  simp only [WK_skip, WK_seq, WX_seq, WX_seq_exit, WX_seq_ret, WK_block, WX_block, WX_block_ret, WX_block_eq, WK_exit, WK_ret, WK_scope, WK_cond, WK_ops, WK_draw, WX_loop, WX_loop_exit, WX_loop_ret, WX_nil, WB_true, WB_false, WOs_nil, WDs_nil, WV_some, WA_some, WE_some, WDV_zero, WDE_none, putD_some, putD_none, WOs_g, WG_tt, WG_ff, WG_tf, WG_ft, WG_un, WOs_mov, WOs_bin, WOs_un, WOs_pick, WOs_toInt, WOs_len, WOs_load, WOs_iaddr, WOs_indexS, WOs_extr, WOs_field, WOs_toStr, WOs_call, WOs_store, WOs_append, WOs_slice, WOs_mx, WOs_mn, WOs_build, WOs_bslice, WOs_mkslice, WOs_alloc, WOs_lenA, WDs_mov, WDs_bin, WDs_call, evalQ_mov, evalQ_bin, evalQ_un, evalQ_pick, evalQ_toInt, evalQ_len, evalQ_load, evalQ_iaddr, evalQ_indexS, evalQ_extr, evalQ_field, evalQ_mx, evalQ_mn, evalQ_lenA, evalE_fn, evalE_append, evs_cons, evs_nil, ev_tmp, ev_lit, nth_zero, nth_succ, put_zero, put_succ, pickV_tt, pickV_ff, extrV_0, extrV_1, extrV_2, WOs_box, evalA_box, cells_agg]
  rw [show (AHeap.empty.push (.cells (fC A B C) true)) = H from hH.symm]
  have n1 : (H.push (.cells [.int .i64 0, .int .i64 0, .int .i64 0] true)).get 1 = some (.cells [.int .i64 0, .int .i64 0, .int .i64 0] true) := by
    rw [← hnx]; exact AHeap.get_push_same H _
  have k0 : ∀ l, ((H.push (.cells [.int .i64 0, .int .i64 0, .int .i64 0] true)).set 1 (.cells l true)).get 0 = some (.cells (fC A B C) true) := by
    intro l; rw [AHeap.get_set_ne _ _ (by decide), AHeap.get_push_lt _ _ (by omega)]; exact g0
  have hbld : ∀ (tm : List AV) (h : AHeap), evalQ (.build [.int .i64 0, .int .i64 0, .int .i64 0] []) tm h = some (fV 0 0 0) := fun _ _ => rfl
  have f40 : ((4 : Int) = 0) = False := by simp
  have f30 : ((3 : Int) = 0) = False := by simp
  have heq : bin .eql (.flat [1, 1, 1]) (fV 0 0 0) (fV 0 0 0) = some (.bool true) := rfl
  rcases bd_cases [A, B, C] with hz | hz
  · obtain ⟨l1, l2, l3⟩ := bd_three hz
    by_cases hn : 0 < A ∧ B * B - 4 * A * C < 0
    · have hv := VF_of l1 l2 l3 hn.1 hn.2
      have hn' : B * B - 4 * A * C < 0 ∧ 0 < A := ⟨hn.2, hn.1⟩
      have hr : redV A B C = .tup [fVt (rd (A, B, C)), .int .i64 0] := by unfold redV; rw [if_pos hz, if_pos hn]
      simp only [WK_skip, WK_seq, WX_seq, WX_seq_exit, WX_seq_ret, WK_block, WX_block, WX_block_ret, WX_block_eq, WK_exit, WK_ret, WK_scope, WK_cond, WK_ops, WK_draw, WX_loop, WX_loop_exit, WX_loop_ret, WX_nil, WB_true, WB_false, WOs_nil, WDs_nil, WV_some, WA_some, WE_some, WDV_zero, WDE_none, putD_some, putD_none, WOs_g, WG_tt, WG_ff, WG_tf, WG_ft, WG_un, WOs_mov, WOs_bin, WOs_un, WOs_pick, WOs_toInt, WOs_len, WOs_load, WOs_iaddr, WOs_indexS, WOs_extr, WOs_field, WOs_toStr, WOs_call, WOs_store, WOs_append, WOs_slice, WOs_mx, WOs_mn, WOs_build, WOs_bslice, WOs_mkslice, WOs_alloc, WOs_lenA, WDs_mov, WDs_bin, WDs_call, evalQ_mov, evalQ_bin, evalQ_un, evalQ_pick, evalQ_toInt, evalQ_len, evalQ_load, evalQ_iaddr, evalQ_indexS, evalQ_extr, evalQ_field, evalQ_mx, evalQ_mn, evalQ_lenA, evalE_fn, evalE_append, evs_cons, evs_nil, ev_tmp, ev_lit, nth_zero, nth_succ, put_zero, put_succ, pickV_tt, pickV_ff, extrV_0, extrV_1, extrV_2, ldS g0, c_red7, hr, evalA_alloc, hnx, evalE_store, stV3 (x := .int .i64 (rd (A, B, C)).1) (y := .int .i64 (rd (A, B, C)).2.1) (z := .int .i64 (rd (A, B, C)).2.2) n1 rfl rfl rfl,
        WDs_faddr, WDs_load, WDs_mx, WDs_g, WDG_tt, WDs_pick, WDV_succ, WDE_some, checks, lower, recheck, AOp.cls, AV.beq_refl, cond_true, true_and,
        evalQ_faddr, faddrV_0, faddrV_1, faddrV_2, ld0 (k0 _), ld1 (k0 _), ld2 (k0 _), c_large7, mx3, hz, eql_int, decide_true, ldS (k0 _), c_pos7 l1 l2 l3, hn', and_self, not_bool, Bool.not_true, neq_int, ne_eq, not_true_eq_false, decide_false, ldsS, c_rred7 hv, eqF, c_aw7, Ret_ret, result_1]
    · have hn' : ¬ (B * B - 4 * A * C < 0 ∧ 0 < A) := fun h => hn ⟨h.2, h.1⟩
      have hr : redV A B C = .tup [fV 0 0 0, .int .i64 3] := by unfold redV; rw [if_pos hz, if_neg hn]
      simp only [WK_skip, WK_seq, WX_seq, WX_seq_exit, WX_seq_ret, WK_block, WX_block, WX_block_ret, WX_block_eq, WK_exit, WK_ret, WK_scope, WK_cond, WK_ops, WK_draw, WX_loop, WX_loop_exit, WX_loop_ret, WX_nil, WB_true, WB_false, WOs_nil, WDs_nil, WV_some, WA_some, WE_some, WDV_zero, WDE_none, putD_some, putD_none, WOs_g, WG_tt, WG_ff, WG_tf, WG_ft, WG_un, WOs_mov, WOs_bin, WOs_un, WOs_pick, WOs_toInt, WOs_len, WOs_load, WOs_iaddr, WOs_indexS, WOs_extr, WOs_field, WOs_toStr, WOs_call, WOs_store, WOs_append, WOs_slice, WOs_mx, WOs_mn, WOs_build, WOs_bslice, WOs_mkslice, WOs_alloc, WOs_lenA, WDs_mov, WDs_bin, WDs_call, evalQ_mov, evalQ_bin, evalQ_un, evalQ_pick, evalQ_toInt, evalQ_len, evalQ_load, evalQ_iaddr, evalQ_indexS, evalQ_extr, evalQ_field, evalQ_mx, evalQ_mn, evalQ_lenA, evalE_fn, evalE_append, evs_cons, evs_nil, ev_tmp, ev_lit, nth_zero, nth_succ, put_zero, put_succ, pickV_tt, pickV_ff, extrV_0, extrV_1, extrV_2, ldS g0, c_red7, hr, evalA_alloc, hnx, evalE_store, stV3 (x := .int .i64 0) (y := .int .i64 0) (z := .int .i64 0) n1 rfl rfl rfl,
        WDs_faddr, WDs_load, WDs_mx, WDs_g, WDG_tt, WDs_pick, WDV_succ, WDE_some, checks, lower, recheck, AOp.cls, AV.beq_refl, cond_true, true_and,
        evalQ_faddr, faddrV_0, faddrV_1, faddrV_2, ld0 (k0 _), ld1 (k0 _), ld2 (k0 _), c_large7, mx3, hz, eql_int, decide_true, ldS (k0 _), c_pos7 l1 l2 l3, hn', not_bool, Bool.not_false, neq_int, ne_eq, f30, not_false_eq_true, decide_false, ldsS, hbld, heq, c_aw7, Ret_ret, result_1]
  · have hr : redV A B C = .tup [fV 0 0 0, .int .i64 4] := by unfold redV; rw [if_neg (by rw [hz]; decide)]
    simp only [WK_skip, WK_seq, WX_seq, WX_seq_exit, WX_seq_ret, WK_block, WX_block, WX_block_ret, WX_block_eq, WK_exit, WK_ret, WK_scope, WK_cond, WK_ops, WK_draw, WX_loop, WX_loop_exit, WX_loop_ret, WX_nil, WB_true, WB_false, WOs_nil, WDs_nil, WV_some, WA_some, WE_some, WDV_zero, WDE_none, putD_some, putD_none, WOs_g, WG_tt, WG_ff, WG_tf, WG_ft, WG_un, WOs_mov, WOs_bin, WOs_un, WOs_pick, WOs_toInt, WOs_len, WOs_load, WOs_iaddr, WOs_indexS, WOs_extr, WOs_field, WOs_toStr, WOs_call, WOs_store, WOs_append, WOs_slice, WOs_mx, WOs_mn, WOs_build, WOs_bslice, WOs_mkslice, WOs_alloc, WOs_lenA, WDs_mov, WDs_bin, WDs_call, evalQ_mov, evalQ_bin, evalQ_un, evalQ_pick, evalQ_toInt, evalQ_len, evalQ_load, evalQ_iaddr, evalQ_indexS, evalQ_extr, evalQ_field, evalQ_mx, evalQ_mn, evalQ_lenA, evalE_fn, evalE_append, evs_cons, evs_nil, ev_tmp, ev_lit, nth_zero, nth_succ, put_zero, put_succ, pickV_tt, pickV_ff, extrV_0, extrV_1, extrV_2, ldS g0, c_red7, hr, evalA_alloc, hnx, evalE_store, stV3 (x := .int .i64 0) (y := .int .i64 0) (z := .int .i64 0) n1 rfl rfl rfl,
      WDs_faddr, WDs_load, WDs_mx, WDs_g, WDG_tt, WDs_pick, WDV_succ, WDE_some, checks, lower, recheck, AOp.cls, AV.beq_refl, cond_true, true_and,
      evalQ_faddr, faddrV_0, faddrV_1, faddrV_2, ld0 (k0 _), ld1 (k0 _), ld2 (k0 _), c_large7, mx3, hz, eql_int, f40, decide_false, decide_true, neq_int, ne_eq, not_false_eq_true, ldsS, hbld, heq, c_aw7, Ret_ret, result_1]
end Go.AM
