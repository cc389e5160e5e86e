/- Forms: greatest common divisors, the program's test, the order of forms: what the code computes. No condition. -/
import Derived.Test.YtemmnocgkgoegaaRed2
set_option maxRecDepth 100000
set_option linter.unusedSimpArgs false
namespace Go.AM
open Go
section
variable {C : CallT} {K : List Fr} {Q : AX → St → Prop} {h : AHeap}
noncomputable def gcdB : ACode := match of55.body with | .seq _ (.seq (.block _ (.loop b)) _) => b | c => c
theorem gcd_loop : ∀ (m : Nat) (a b : Int) (y2 : AV), b.natAbs < m → -1000000000000 ≤ a → a ≤ 1000000000000 → -1000000000000 ≤ b → b ≤ 1000000000000 →
    (∀ (g : Int) (z2 : AV), g.natAbs = Int.gcd a b → -1000000000000 ≤ g → g ≤ 1000000000000 → WX C (.exit 0) K ⟨[.int .i64 g, .int .i64 0, z2], h⟩ Q) →
    WK C (.loop gcdB) K ⟨[.int .i64 a, .int .i64 b, y2], h⟩ Q
  | 0, a, b, y2, hm, _, _, _, _, hk => by omega
  | m + 1, a, b, y2, hm, a1, a2, b1, b2, hk => by
    refine WK_loop' (by dsimp only [gcdB, of55]) ?_
    by_cases e : b = 0
    · subst e
      simp only [WK_skip, WK_seq, WX_seq, WX_seq_exit, WX_seq_ret, WK_block, WX_block, WX_block_ret, WX_block_eq, WK_exit, WK_ret, WK_scope, WK_cond, WK_ops, WK_draw, WX_loop, WX_loop_exit, WX_loop_ret, WX_nil, WB_true, WB_false, WOs_nil, WDs_nil, WV_some, WA_some, WE_some, WDV_zero, WDE_none, putD_some, putD_none, WOs_g, WG_tt, WG_ff, WG_tf, WG_ft, WG_un, WOs_mov, WOs_bin, WOs_un, WOs_pick, WOs_toInt, WOs_len, WOs_load, WOs_iaddr, WOs_extr, WOs_call, WOs_store, WOs_append, WOs_slice, WOs_mx, WOs_mn, WOs_build, WOs_bslice, WOs_alloc, WDs_mov, WDs_bin, WDs_call, evalQ_mov, evalQ_bin, evalQ_un, evalQ_pick, evalQ_toInt, evalQ_len, evalQ_load, evalQ_iaddr, evalQ_extr, evalQ_mx, evalQ_mn, evalE_fn, evalE_append, evs_cons, evs_nil, ev_tmp, ev_lit, nth_zero, nth_succ, put_zero, put_succ, pickV_tt, pickV_ff, extrV_0, extrV_1, extrV_2, neq_int, ne_eq, not_true_eq_false, decide_false]
      exact hk a _ (by simp) a1 a2
    · have e2 : (b ≠ 0) = True := eq_true e
      have ha : (a.tmod b).natAbs = a.natAbs % b.natAbs := Int.natAbs_tmod a b
      have hl : a.natAbs % b.natAbs < b.natAbs := Nat.mod_lt _ (by omega)
      simp (disch := omega) only [WK_skip, WK_seq, WX_seq, WX_seq_exit, WX_seq_ret, WK_block, WX_block, WX_block_ret, WX_block_eq, WK_exit, WK_ret, WK_scope, WK_cond, WK_ops, WK_draw, WX_loop, WX_loop_exit, WX_loop_ret, WX_nil, WB_true, WB_false, WOs_nil, WDs_nil, WV_some, WA_some, WE_some, WDV_zero, WDE_none, putD_some, putD_none, WOs_g, WG_tt, WG_ff, WG_tf, WG_ft, WG_un, WOs_mov, WOs_bin, WOs_un, WOs_pick, WOs_toInt, WOs_len, WOs_load, WOs_iaddr, WOs_extr, WOs_call, WOs_store, WOs_append, WOs_slice, WOs_mx, WOs_mn, WOs_build, WOs_bslice, WOs_alloc, WDs_mov, WDs_bin, WDs_call, evalQ_mov, evalQ_bin, evalQ_un, evalQ_pick, evalQ_toInt, evalQ_len, evalQ_load, evalQ_iaddr, evalQ_extr, evalQ_mx, evalQ_mn, evalE_fn, evalE_append, evs_cons, evs_nil, ev_tmp, ev_lit, nth_zero, nth_succ, put_zero, put_succ, pickV_tt, pickV_ff, extrV_0, extrV_1, extrV_2, neq_int, e2, decide_true, rem_i64]
      refine gcd_loop m b (a.tmod b) _ (by omega) b1 b2 (by omega) (by omega) fun g z2 hg g1 g2 => hk g z2 ?_ g1 g2
      rw [hg]
      show Nat.gcd b.natAbs (a.tmod b).natAbs = Nat.gcd a.natAbs b.natAbs
      rw [ha, Nat.gcd_comm a.natAbs b.natAbs, Nat.gcd_comm b.natAbs (a.natAbs % b.natAbs), ← Nat.gcd_rec]
noncomputable def rgcdB : ACode := match of32.body with | .seq _ (.seq (.block _ (.loop b)) _) => b | c => c
theorem rgcd_loop : ∀ (m a b : Nat) (y2 : AV), b < m →
    (∀ (z1 z2 : AV), WX C (.exit 0) K ⟨[.int .i64 (Nat.gcd a b : Int), z1, z2], h⟩ Q) →
    WK C (.loop rgcdB) K ⟨[.int .i64 (a : Int), .int .i64 (b : Int), y2], h⟩ Q
  | 0, a, b, y2, hm, hk => by omega
  | m + 1, a, b, y2, hm, hk => by
    refine WK_loop' (by dsimp only [rgcdB, of32]) ?_
    by_cases e : b = 0
    · subst e
      simp only [WK_skip, WK_seq, WX_seq, WX_seq_exit, WX_seq_ret, WK_block, WX_block, WX_block_ret, WX_block_eq, WK_exit, WK_ret, WK_scope, WK_cond, WK_ops, WK_draw, WX_loop, WX_loop_exit, WX_loop_ret, WX_nil, WB_true, WB_false, WOs_nil, WDs_nil, WV_some, WA_some, WE_some, WDV_zero, WDE_none, putD_some, putD_none, WOs_g, WG_tt, WG_ff, WG_tf, WG_ft, WG_un, WOs_mov, WOs_bin, WOs_un, WOs_pick, WOs_toInt, WOs_len, WOs_load, WOs_iaddr, WOs_extr, WOs_call, WOs_store, WOs_append, WOs_slice, WOs_mx, WOs_mn, WOs_build, WOs_bslice, WOs_alloc, WDs_mov, WDs_bin, WDs_call, evalQ_mov, evalQ_bin, evalQ_un, evalQ_pick, evalQ_toInt, evalQ_len, evalQ_load, evalQ_iaddr, evalQ_extr, evalQ_mx, evalQ_mn, evalE_fn, evalE_append, evs_cons, evs_nil, ev_tmp, ev_lit, nth_zero, nth_succ, put_zero, put_succ, pickV_tt, pickV_ff, extrV_0, extrV_1, extrV_2, gtr_int, show decide ((0 : Int) < ((0 : Nat) : Int)) = false from rfl]
      have := hk (.int .i64 ((0 : Nat) : Int)) (.bool false)
      rw [Nat.gcd_zero_right] at this
      exact this
    · have e2 : (0 : Int) < (b : Int) := by omega
      have e3 : (a : Int) % (b : Int) = ((a % b : Nat) : Int) := by simp
      simp (disch := omega) only [WK_skip, WK_seq, WX_seq, WX_seq_exit, WX_seq_ret, WK_block, WX_block, WX_block_ret, WX_block_eq, WK_exit, WK_ret, WK_scope, WK_cond, WK_ops, WK_draw, WX_loop, WX_loop_exit, WX_loop_ret, WX_nil, WB_true, WB_false, WOs_nil, WDs_nil, WV_some, WA_some, WE_some, WDV_zero, WDE_none, putD_some, putD_none, WOs_g, WG_tt, WG_ff, WG_tf, WG_ft, WG_un, WOs_mov, WOs_bin, WOs_un, WOs_pick, WOs_toInt, WOs_len, WOs_load, WOs_iaddr, WOs_extr, WOs_call, WOs_store, WOs_append, WOs_slice, WOs_mx, WOs_mn, WOs_build, WOs_bslice, WOs_alloc, WDs_mov, WDs_bin, WDs_call, evalQ_mov, evalQ_bin, evalQ_un, evalQ_pick, evalQ_toInt, evalQ_len, evalQ_load, evalQ_iaddr, evalQ_extr, evalQ_mx, evalQ_mn, evalE_fn, evalE_append, evs_cons, evs_nil, ev_tmp, ev_lit, nth_zero, nth_succ, put_zero, put_succ, pickV_tt, pickV_ff, extrV_0, extrV_1, extrV_2, gtr_int, e2, decide_true, rem_pos, e3]
      refine rgcd_loop m b (a % b) _ (by have := Nat.mod_lt a (show b > 0 by omega); omega) ?_
      rw [Nat.gcd_comm b (a % b), ← Nat.gcd_rec, Nat.gcd_comm b a]
      exact hk
end
def mid (x : Int) : Prop := -1000000000000 ≤ x ∧ x ≤ 1000000000000
instance (x : Int) : Decidable (mid x) := by unfold mid; infer_instance
def gcdS : List AV → Option AV
  | [.int .i64 a, .int .i64 b] => if mid a ∧ mid b then some (.int .i64 (Int.gcd a b : Int)) else none
  | _ => none
theorem gcd_run {a b : Int} (ha : mid a) (hb : mid b) : ∃ h', lim otab.get K2 (.fn 55) [.int .i64 a, .int .i64 b] .empty = some (.int .i64 (Int.gcd a b : Int), h') := by
  refine run_of (fn := of55) rfl rfl ?_
  show WK _ _ [] ⟨[.int .i64 a, .int .i64 b, aundef], .empty⟩ _
  dsimp only [of55]
  simp only [WK_skip, WK_seq, WX_seq, WX_seq_exit, WX_seq_ret, WK_block, WX_block, WX_block_ret, WX_block_eq, WK_exit, WK_ret, WK_scope, WK_cond, WK_ops, WK_draw, WX_loop, WX_loop_exit, WX_loop_ret, WX_nil, WB_true, WB_false, WOs_nil, WDs_nil, WV_some, WA_some, WE_some, WDV_zero, WDE_none, putD_some, putD_none, WOs_g, WG_tt, WG_ff, WG_tf, WG_ft, WG_un, WOs_mov, WOs_bin, WOs_un, WOs_pick, WOs_toInt, WOs_len, WOs_load, WOs_iaddr, WOs_extr, WOs_call, WOs_store, WOs_append, WOs_slice, WOs_mx, WOs_mn, WOs_build, WOs_bslice, WOs_alloc, WDs_mov, WDs_bin, WDs_call, evalQ_mov, evalQ_bin, evalQ_un, evalQ_pick, evalQ_toInt, evalQ_len, evalQ_load, evalQ_iaddr, evalQ_extr, evalQ_mx, evalQ_mn, evalE_fn, evalE_append, evs_cons, evs_nil, ev_tmp, ev_lit, nth_zero, nth_succ, put_zero, put_succ, pickV_tt, pickV_ff, extrV_0, extrV_1, extrV_2]
  refine gcd_loop (b.natAbs + 1) a b _ (by omega) ha.1 ha.2 hb.1 hb.2 fun g z2 hg g1 g2 => ?_
  simp (disch := omega) only [WK_skip, WK_seq, WX_seq, WX_seq_exit, WX_seq_ret, WK_block, WX_block, WX_block_ret, WX_block_eq, WK_exit, WK_ret, WK_scope, WK_cond, WK_ops, WK_draw, WX_loop, WX_loop_exit, WX_loop_ret, WX_nil, WB_true, WB_false, WOs_nil, WDs_nil, WV_some, WA_some, WE_some, WDV_zero, WDE_none, putD_some, putD_none, WOs_g, WG_tt, WG_ff, WG_tf, WG_ft, WG_un, WOs_mov, WOs_bin, WOs_un, WOs_pick, WOs_toInt, WOs_len, WOs_load, WOs_iaddr, WOs_extr, WOs_call, WOs_store, WOs_append, WOs_slice, WOs_mx, WOs_mn, WOs_build, WOs_bslice, WOs_alloc, WDs_mov, WDs_bin, WDs_call, evalQ_mov, evalQ_bin, evalQ_un, evalQ_pick, evalQ_toInt, evalQ_len, evalQ_load, evalQ_iaddr, evalQ_extr, evalQ_mx, evalQ_mn, evalE_fn, evalE_append, evs_cons, evs_nil, ev_tmp, ev_lit, nth_zero, nth_succ, put_zero, put_succ, pickV_tt, pickV_ff, extrV_0, extrV_1, extrV_2, neg_i64, max_int, max_abs, Ret_ret, result_1, hg]
noncomputable def L3 : Oracle := ext K2 55 gcdS
theorem L3_ok : IOK Go.Proofs.Try.prog L3 := IOK.extL mixed tabOK otabOK K2_ok (g := 55) (fn := af55) rfl fun args av h => by
  unfold gcdS at h
  split at h
  · split at h
    · rename_i hn; cases h; exact ⟨rfl, rfl, gcd_run hn.1 hn.2⟩
    · cases h
  · cases h
def rgcdS : List AV → Option AV
  | [.int .i64 a, .int .i64 b] => if 0 ≤ a ∧ 0 ≤ b then some (.int .i64 (Nat.gcd a.toNat b.toNat : Int)) else none
  | _ => none
theorem rgcd_ok (x y : Nat) : rgcdS [.int .i64 (x : Int), .int .i64 (y : Int)] = some (.int .i64 (Nat.gcd x y : Int)) := by
  show (if 0 ≤ (x : Int) ∧ 0 ≤ (y : Int) then some (AV.int .i64 (Nat.gcd (x : Int).toNat (y : Int).toNat : Int)) else none) = _
  rw [if_pos ⟨by omega, by omega⟩, Int.toNat_natCast, Int.toNat_natCast]
theorem rgcd_run (a b : Nat) : ∃ h', lim otab.get L3 (.fn 32) [.int .i64 (a : Int), .int .i64 (b : Int)] .empty = some (.int .i64 (Nat.gcd a b : Int), h') := by
  refine run_of (fn := of32) rfl rfl ?_
  show WK _ _ [] ⟨[.int .i64 (a : Int), .int .i64 (b : Int), aundef], .empty⟩ _
  dsimp only [of32]
  simp only [WK_skip, WK_seq, WX_seq, WX_seq_exit, WX_seq_ret, WK_block, WX_block, WX_block_ret, WX_block_eq, WK_exit, WK_ret, WK_scope, WK_cond, WK_ops, WK_draw, WX_loop, WX_loop_exit, WX_loop_ret, WX_nil, WB_true, WB_false, WOs_nil, WDs_nil, WV_some, WA_some, WE_some, WDV_zero, WDE_none, putD_some, putD_none, WOs_g, WG_tt, WG_ff, WG_tf, WG_ft, WG_un, WOs_mov, WOs_bin, WOs_un, WOs_pick, WOs_toInt, WOs_len, WOs_load, WOs_iaddr, WOs_extr, WOs_call, WOs_store, WOs_append, WOs_slice, WOs_mx, WOs_mn, WOs_build, WOs_bslice, WOs_alloc, WDs_mov, WDs_bin, WDs_call, evalQ_mov, evalQ_bin, evalQ_un, evalQ_pick, evalQ_toInt, evalQ_len, evalQ_load, evalQ_iaddr, evalQ_extr, evalQ_mx, evalQ_mn, evalE_fn, evalE_append, evs_cons, evs_nil, ev_tmp, ev_lit, nth_zero, nth_succ, put_zero, put_succ, pickV_tt, pickV_ff, extrV_0, extrV_1, extrV_2]
  refine rgcd_loop (b + 1) a b _ (by omega) fun z1 z2 => ?_
  simp only [WK_skip, WK_seq, WX_seq, WX_seq_exit, WX_seq_ret, WK_block, WX_block, WX_block_ret, WX_block_eq, WK_exit, WK_ret, WK_scope, WK_cond, WK_ops, WK_draw, WX_loop, WX_loop_exit, WX_loop_ret, WX_nil, WB_true, WB_false, WOs_nil, WDs_nil, WV_some, WA_some, WE_some, WDV_zero, WDE_none, putD_some, putD_none, WOs_g, WG_tt, WG_ff, WG_tf, WG_ft, WG_un, WOs_mov, WOs_bin, WOs_un, WOs_pick, WOs_toInt, WOs_len, WOs_load, WOs_iaddr, WOs_extr, WOs_call, WOs_store, WOs_append, WOs_slice, WOs_mx, WOs_mn, WOs_build, WOs_bslice, WOs_alloc, WDs_mov, WDs_bin, WDs_call, evalQ_mov, evalQ_bin, evalQ_un, evalQ_pick, evalQ_toInt, evalQ_len, evalQ_load, evalQ_iaddr, evalQ_extr, evalQ_mx, evalQ_mn, evalE_fn, evalE_append, evs_cons, evs_nil, ev_tmp, ev_lit, nth_zero, nth_succ, put_zero, put_succ, pickV_tt, pickV_ff, extrV_0, extrV_1, extrV_2, Ret_ret, result_1]
noncomputable def L4 : Oracle := ext L3 32 rgcdS
theorem L4_ok : IOK Go.Proofs.Try.prog L4 := IOK.extL mixed tabOK otabOK L3_ok (g := 32) (fn := af32) rfl fun args av h => by
  unfold rgcdS at h
  split at h
  · split at h
    · rename_i a b hn
      cases h
      obtain ⟨m, rfl⟩ := Int.eq_ofNat_of_zero_le hn.1
      obtain ⟨n, rfl⟩ := Int.eq_ofNat_of_zero_le hn.2
      exact ⟨rfl, rfl, rgcd_run m n⟩
    · cases h
  · cases h
def g3 (A B C : Int) : Nat := Nat.gcd (Nat.gcd A.natAbs B.natAbs) C.natAbs
def rg3S : List AV → Option AV
  | [.int .i64 a, .int .i64 b, .int .i64 c] => if mid a ∧ mid b ∧ mid c then some (.int .i64 (g3 a b c : Int)) else none
  | _ => none
theorem mid.small {x : Int} (h : mid x) : small x := by unfold mid at h; unfold AM.small; omega
theorem rg3_run {a b c : Int} (ha : mid a) (hb : mid b) (hc : mid c) : ∃ h', lim otab.get L4 (.fn 58) [.int .i64 a, .int .i64 b, .int .i64 c] .empty = some (.int .i64 (g3 a b c : Int), h') := by
  refine run_of (fn := of58) rfl rfl ?_
  show WK _ _ [] ⟨[.int .i64 a, .int .i64 b, .int .i64 c, aundef], .empty⟩ _
  dsimp only [of58]
  have cab : ∀ (x : Int) h, mid x → lim otab.get L4 (.fn 44) [.int .i64 x] h = some (.int .i64 (x.natAbs : Int), h) := fun x h hx => lim_oracle (or_hit (spec := absS) (if_pos hx.small))
  have cg : ∀ (x y : Nat) h, lim otab.get L4 (.fn 32) [.int .i64 (x : Int), .int .i64 (y : Int)] h = some (.int .i64 (Nat.gcd x y : Int), h) := fun x y h => lim_oracle (Eq.trans (b := L4 32 [.int .i64 (x : Int), .int .i64 (y : Int)] h) rfl (ext_hit (rgcd_ok x y)))
  simp only [WK_skip, WK_seq, WX_seq, WX_seq_exit, WX_seq_ret, WK_block, WX_block, WX_block_ret, WX_block_eq, WK_exit, WK_ret, WK_scope, WK_cond, WK_ops, WK_draw, WX_loop, WX_loop_exit, WX_loop_ret, WX_nil, WB_true, WB_false, WOs_nil, WDs_nil, WV_some, WA_some, WE_some, WDV_zero, WDE_none, putD_some, putD_none, WOs_g, WG_tt, WG_ff, WG_tf, WG_ft, WG_un, WOs_mov, WOs_bin, WOs_un, WOs_pick, WOs_toInt, WOs_len, WOs_load, WOs_iaddr, WOs_extr, WOs_call, WOs_store, WOs_append, WOs_slice, WOs_mx, WOs_mn, WOs_build, WOs_bslice, WOs_alloc, WDs_mov, WDs_bin, WDs_call, evalQ_mov, evalQ_bin, evalQ_un, evalQ_pick, evalQ_toInt, evalQ_len, evalQ_load, evalQ_iaddr, evalQ_extr, evalQ_mx, evalQ_mn, evalE_fn, evalE_append, evs_cons, evs_nil, ev_tmp, ev_lit, nth_zero, nth_succ, put_zero, put_succ, pickV_tt, pickV_ff, extrV_0, extrV_1, extrV_2, cab a _ ha, cab b _ hb, cab c _ hc, cg, Ret_ret, result_1, g3]
noncomputable def L5 : Oracle := ext L4 58 rg3S
theorem L5_ok : IOK Go.Proofs.Try.prog L5 := IOK.extL mixed tabOK otabOK L4_ok (g := 58) (fn := af58) rfl fun args av h => by
  unfold rg3S at h
  split at h
  · split at h
    · rename_i hn; cases h; exact ⟨rfl, rfl, rg3_run hn.1 hn.2.1 hn.2.2⟩
    · cases h
  · cases h
/-- the reference's test again, over this chain -/
theorem isRed_run5 {A B C : Int} (hb : small B) : ∃ h', lim otab.get L5 (.fn 33) [fV A B C] .empty = some (.bool (decide (isRed (A, B, C))), h') := by
  refine run_of (fn := of33) rfl rfl ?_
  show WK _ _ [] ⟨[fV A B C, aundef, aundef, aundef, aundef], .empty⟩ _
  dsimp only [of33]
  have g0 : (AHeap.empty.push (.cells (fC A B C) true)).get 0 = some (.cells (fC A B C) true) := AHeap.get_push_same AHeap.empty _
  have cb : ∀ h, lim otab.get L5 (.fn 44) [.int .i64 B] h = some (.int .i64 (B.natAbs : Int), h) := fun h => lim_oracle (or_hit (spec := absS) (if_pos hb))
  by_cases e1 : (B.natAbs : Int) ≤ A
  · by_cases e2 : A ≤ C
    · by_cases e3 : 0 ≤ B
      · have : isRed (A, B, C) := ⟨e1, e2, .inl e3⟩
        simp only [WK_skip, WK_seq, WX_seq, WX_seq_exit, WX_seq_ret, WK_block, WX_block, WX_block_ret, WX_block_eq, WK_exit, WK_ret, WK_scope, WK_cond, WK_ops, WK_draw, WX_loop, WX_loop_exit, WX_loop_ret, WX_nil, WB_true, WB_false, WOs_nil, WDs_nil, WV_some, WA_some, WE_some, WDV_zero, WDE_none, putD_some, putD_none, WOs_g, WG_tt, WG_ff, WG_tf, WG_ft, WG_un, WOs_mov, WOs_bin, WOs_un, WOs_pick, WOs_toInt, WOs_len, WOs_load, WOs_iaddr, WOs_extr, WOs_call, WOs_store, WOs_append, WOs_slice, WOs_mx, WOs_mn, WOs_build, WOs_bslice, WOs_alloc, WDs_mov, WDs_bin, WDs_call, evalQ_mov, evalQ_bin, evalQ_un, evalQ_pick, evalQ_toInt, evalQ_len, evalQ_load, evalQ_iaddr, evalQ_extr, evalQ_mx, evalQ_mn, evalE_fn, evalE_append, evs_cons, evs_nil, ev_tmp, ev_lit, nth_zero, nth_succ, put_zero, put_succ, pickV_tt, pickV_ff, extrV_0, extrV_1, extrV_2, WOs_box, evalA_box, cells_agg, WOs_faddr, evalQ_faddr, faddrV_0, faddrV_1, faddrV_2, ld0 g0, ld1 g0, ld2 g0, cb, leq_int, geq_int, neq_int, e1, e2, e3, decide_true, Ret_ret, result_1, this]
      · by_cases e4 : (B.natAbs : Int) ≠ A
        · have e4t : ((B.natAbs : Int) ≠ A) = True := eq_true e4
          have : isRed (A, B, C) ↔ A ≠ C := by unfold isRed; dsimp only; omega
          simp only [WK_skip, WK_seq, WX_seq, WX_seq_exit, WX_seq_ret, WK_block, WX_block, WX_block_ret, WX_block_eq, WK_exit, WK_ret, WK_scope, WK_cond, WK_ops, WK_draw, WX_loop, WX_loop_exit, WX_loop_ret, WX_nil, WB_true, WB_false, WOs_nil, WDs_nil, WV_some, WA_some, WE_some, WDV_zero, WDE_none, putD_some, putD_none, WOs_g, WG_tt, WG_ff, WG_tf, WG_ft, WG_un, WOs_mov, WOs_bin, WOs_un, WOs_pick, WOs_toInt, WOs_len, WOs_load, WOs_iaddr, WOs_extr, WOs_call, WOs_store, WOs_append, WOs_slice, WOs_mx, WOs_mn, WOs_build, WOs_bslice, WOs_alloc, WDs_mov, WDs_bin, WDs_call, evalQ_mov, evalQ_bin, evalQ_un, evalQ_pick, evalQ_toInt, evalQ_len, evalQ_load, evalQ_iaddr, evalQ_extr, evalQ_mx, evalQ_mn, evalE_fn, evalE_append, evs_cons, evs_nil, ev_tmp, ev_lit, nth_zero, nth_succ, put_zero, put_succ, pickV_tt, pickV_ff, extrV_0, extrV_1, extrV_2, WOs_box, evalA_box, cells_agg, WOs_faddr, evalQ_faddr, faddrV_0, faddrV_1, faddrV_2, ld0 g0, ld1 g0, ld2 g0, cb, leq_int, geq_int, neq_int, e1, e2, e3, e4t, decide_true, decide_false, Ret_ret, result_1, decide_eq_decide.2 this]
        · have : ¬ isRed (A, B, C) := by unfold isRed; dsimp only; omega
          simp only [WK_skip, WK_seq, WX_seq, WX_seq_exit, WX_seq_ret, WK_block, WX_block, WX_block_ret, WX_block_eq, WK_exit, WK_ret, WK_scope, WK_cond, WK_ops, WK_draw, WX_loop, WX_loop_exit, WX_loop_ret, WX_nil, WB_true, WB_false, WOs_nil, WDs_nil, WV_some, WA_some, WE_some, WDV_zero, WDE_none, putD_some, putD_none, WOs_g, WG_tt, WG_ff, WG_tf, WG_ft, WG_un, WOs_mov, WOs_bin, WOs_un, WOs_pick, WOs_toInt, WOs_len, WOs_load, WOs_iaddr, WOs_extr, WOs_call, WOs_store, WOs_append, WOs_slice, WOs_mx, WOs_mn, WOs_build, WOs_bslice, WOs_alloc, WDs_mov, WDs_bin, WDs_call, evalQ_mov, evalQ_bin, evalQ_un, evalQ_pick, evalQ_toInt, evalQ_len, evalQ_load, evalQ_iaddr, evalQ_extr, evalQ_mx, evalQ_mn, evalE_fn, evalE_append, evs_cons, evs_nil, ev_tmp, ev_lit, nth_zero, nth_succ, put_zero, put_succ, pickV_tt, pickV_ff, extrV_0, extrV_1, extrV_2, WOs_box, evalA_box, cells_agg, WOs_faddr, evalQ_faddr, faddrV_0, faddrV_1, faddrV_2, ld0 g0, ld1 g0, ld2 g0, cb, leq_int, geq_int, neq_int, e1, e2, e3, e4, decide_true, decide_false, Ret_ret, result_1, this]
    · have : ¬ isRed (A, B, C) := fun h => e2 h.2.1
      simp only [WK_skip, WK_seq, WX_seq, WX_seq_exit, WX_seq_ret, WK_block, WX_block, WX_block_ret, WX_block_eq, WK_exit, WK_ret, WK_scope, WK_cond, WK_ops, WK_draw, WX_loop, WX_loop_exit, WX_loop_ret, WX_nil, WB_true, WB_false, WOs_nil, WDs_nil, WV_some, WA_some, WE_some, WDV_zero, WDE_none, putD_some, putD_none, WOs_g, WG_tt, WG_ff, WG_tf, WG_ft, WG_un, WOs_mov, WOs_bin, WOs_un, WOs_pick, WOs_toInt, WOs_len, WOs_load, WOs_iaddr, WOs_extr, WOs_call, WOs_store, WOs_append, WOs_slice, WOs_mx, WOs_mn, WOs_build, WOs_bslice, WOs_alloc, WDs_mov, WDs_bin, WDs_call, evalQ_mov, evalQ_bin, evalQ_un, evalQ_pick, evalQ_toInt, evalQ_len, evalQ_load, evalQ_iaddr, evalQ_extr, evalQ_mx, evalQ_mn, evalE_fn, evalE_append, evs_cons, evs_nil, ev_tmp, ev_lit, nth_zero, nth_succ, put_zero, put_succ, pickV_tt, pickV_ff, extrV_0, extrV_1, extrV_2, WOs_box, evalA_box, cells_agg, WOs_faddr, evalQ_faddr, faddrV_0, faddrV_1, faddrV_2, ld0 g0, ld1 g0, ld2 g0, cb, leq_int, geq_int, neq_int, e1, e2, decide_true, decide_false, Ret_ret, result_1, this]
  · have : ¬ isRed (A, B, C) := fun h => e1 h.1
    simp only [WK_skip, WK_seq, WX_seq, WX_seq_exit, WX_seq_ret, WK_block, WX_block, WX_block_ret, WX_block_eq, WK_exit, WK_ret, WK_scope, WK_cond, WK_ops, WK_draw, WX_loop, WX_loop_exit, WX_loop_ret, WX_nil, WB_true, WB_false, WOs_nil, WDs_nil, WV_some, WA_some, WE_some, WDV_zero, WDE_none, putD_some, putD_none, WOs_g, WG_tt, WG_ff, WG_tf, WG_ft, WG_un, WOs_mov, WOs_bin, WOs_un, WOs_pick, WOs_toInt, WOs_len, WOs_load, WOs_iaddr, WOs_extr, WOs_call, WOs_store, WOs_append, WOs_slice, WOs_mx, WOs_mn, WOs_build, WOs_bslice, WOs_alloc, WDs_mov, WDs_bin, WDs_call, evalQ_mov, evalQ_bin, evalQ_un, evalQ_pick, evalQ_toInt, evalQ_len, evalQ_load, evalQ_iaddr, evalQ_extr, evalQ_mx, evalQ_mn, evalE_fn, evalE_append, evs_cons, evs_nil, ev_tmp, ev_lit, nth_zero, nth_succ, put_zero, put_succ, pickV_tt, pickV_ff, extrV_0, extrV_1, extrV_2, WOs_box, evalA_box, cells_agg, WOs_faddr, evalQ_faddr, faddrV_0, faddrV_1, faddrV_2, ld0 g0, ld1 g0, ld2 g0, cb, leq_int, geq_int, neq_int, e1, decide_false, Ret_ret, result_1, this]
noncomputable def L6 : Oracle := ext L5 33 isRedS
theorem L6_ok : IOK Go.Proofs.Try.prog L6 := IOK.extL mixed tabOK otabOK L5_ok (g := 33) (fn := af33) rfl fun args av h => by
  unfold isRedS at h
  split at h
  · split at h
    · rename_i hn; cases h; exact ⟨rfl, rfl, isRed_run5 hn.2.1⟩
    · cases h
  · cases h
/-- the order of forms -/
def cmpV (f g : F3) : Int := if f.1 ≠ g.1 then f.1 - g.1 else if f.2.1 ≠ g.2.1 then f.2.1 - g.2.1 else f.2.2 - g.2.2
def cmpS : List AV → Option AV
  | [.agg [.int .i64 A, .int .i64 B, .int .i64 C], .agg [.int .i64 A', .int .i64 B', .int .i64 C']] => if mid A ∧ mid B ∧ mid C ∧ mid A' ∧ mid B' ∧ mid C' then some (.int .i64 (cmpV (A, B, C) (A', B', C'))) else none
  | _ => none
theorem cmp_run {A B C A' B' C' : Int} (ha : mid A) (hb : mid B) (hc : mid C) (ha' : mid A') (hb' : mid B') (hc' : mid C') : ∃ h', lim otab.get L6 (.fn 57) [fV A B C, fV A' B' C'] .empty = some (.int .i64 (cmpV (A, B, C) (A', B', C')), h') := by
  refine run_of (fn := of57) rfl rfl ?_
  show WK _ _ [] ⟨[fV A B C, fV A' B' C', aundef, aundef], .empty⟩ _
  dsimp only [of57]
  obtain ⟨H, hH⟩ : ∃ H, H = (AHeap.empty.push (.cells (fC A B C) true)).push (.cells (fC A' B' C') true) := ⟨_, rfl⟩
  have g0 : H.get 0 = some (.cells (fC A B C) true) := by
    rw [hH, AHeap.get_push_lt _ _ (by simp)]; exact AHeap.get_push_same AHeap.empty _
  have g1 : H.get 1 = some (.cells (fC A' B' C') true) := by
    rw [hH]; exact AHeap.get_push_same (AHeap.empty.push (.cells (fC A B C) true)) _
  unfold mid at *
  unfold cmpV
  dsimp only
  simp only [WK_skip, WK_seq, WX_seq, WX_seq_exit, WX_seq_ret, WK_block, WX_block, WX_block_ret, WX_block_eq, WK_exit, WK_ret, WK_scope, WK_cond, WK_ops, WK_draw, WX_loop, WX_loop_exit, WX_loop_ret, WX_nil, WB_true, WB_false, WOs_nil, WDs_nil, WV_some, WA_some, WE_some, WDV_zero, WDE_none, putD_some, putD_none, WOs_g, WG_tt, WG_ff, WG_tf, WG_ft, WG_un, WOs_mov, WOs_bin, WOs_un, WOs_pick, WOs_toInt, WOs_len, WOs_load, WOs_iaddr, WOs_extr, WOs_call, WOs_store, WOs_append, WOs_slice, WOs_mx, WOs_mn, WOs_build, WOs_bslice, WOs_alloc, WDs_mov, WDs_bin, WDs_call, evalQ_mov, evalQ_bin, evalQ_un, evalQ_pick, evalQ_toInt, evalQ_len, evalQ_load, evalQ_iaddr, evalQ_extr, evalQ_mx, evalQ_mn, evalE_fn, evalE_append, evs_cons, evs_nil, ev_tmp, ev_lit, nth_zero, nth_succ, put_zero, put_succ, pickV_tt, pickV_ff, extrV_0, extrV_1, extrV_2, WOs_box, evalA_box, cells_agg, AHeap.next_push, Nat.zero_add]
  rw [← hH]
  by_cases e1 : A = A'
  · by_cases e2 : B = B'
    · simp (disch := omega) only [WK_skip, WK_seq, WX_seq, WX_seq_exit, WX_seq_ret, WK_block, WX_block, WX_block_ret, WX_block_eq, WK_exit, WK_ret, WK_scope, WK_cond, WK_ops, WK_draw, WX_loop, WX_loop_exit, WX_loop_ret, WX_nil, WB_true, WB_false, WOs_nil, WDs_nil, WV_some, WA_some, WE_some, WDV_zero, WDE_none, putD_some, putD_none, WOs_g, WG_tt, WG_ff, WG_tf, WG_ft, WG_un, WOs_mov, WOs_bin, WOs_un, WOs_pick, WOs_toInt, WOs_len, WOs_load, WOs_iaddr, WOs_extr, WOs_call, WOs_store, WOs_append, WOs_slice, WOs_mx, WOs_mn, WOs_build, WOs_bslice, WOs_alloc, WDs_mov, WDs_bin, WDs_call, evalQ_mov, evalQ_bin, evalQ_un, evalQ_pick, evalQ_toInt, evalQ_len, evalQ_load, evalQ_iaddr, evalQ_extr, evalQ_mx, evalQ_mn, evalE_fn, evalE_append, evs_cons, evs_nil, ev_tmp, ev_lit, nth_zero, nth_succ, put_zero, put_succ, pickV_tt, pickV_ff, extrV_0, extrV_1, extrV_2, WOs_faddr, evalQ_faddr, faddrV_0, faddrV_1, faddrV_2, ld0 g0, ld1 g0, ld2 g0, ld0 g1, ld1 g1, ld2 g1, neq_int, ne_eq, e1, e2, not_true_eq_false, decide_false, sub_i64, if_false, Ret_ret, result_1]
    · simp (disch := omega) only [WK_skip, WK_seq, WX_seq, WX_seq_exit, WX_seq_ret, WK_block, WX_block, WX_block_ret, WX_block_eq, WK_exit, WK_ret, WK_scope, WK_cond, WK_ops, WK_draw, WX_loop, WX_loop_exit, WX_loop_ret, WX_nil, WB_true, WB_false, WOs_nil, WDs_nil, WV_some, WA_some, WE_some, WDV_zero, WDE_none, putD_some, putD_none, WOs_g, WG_tt, WG_ff, WG_tf, WG_ft, WG_un, WOs_mov, WOs_bin, WOs_un, WOs_pick, WOs_toInt, WOs_len, WOs_load, WOs_iaddr, WOs_extr, WOs_call, WOs_store, WOs_append, WOs_slice, WOs_mx, WOs_mn, WOs_build, WOs_bslice, WOs_alloc, WDs_mov, WDs_bin, WDs_call, evalQ_mov, evalQ_bin, evalQ_un, evalQ_pick, evalQ_toInt, evalQ_len, evalQ_load, evalQ_iaddr, evalQ_extr, evalQ_mx, evalQ_mn, evalE_fn, evalE_append, evs_cons, evs_nil, ev_tmp, ev_lit, nth_zero, nth_succ, put_zero, put_succ, pickV_tt, pickV_ff, extrV_0, extrV_1, extrV_2, WOs_faddr, evalQ_faddr, faddrV_0, faddrV_1, faddrV_2, ld0 g0, ld1 g0, ld2 g0, ld0 g1, ld1 g1, ld2 g1, neq_int, ne_eq, e1, e2, not_true_eq_false, not_false_eq_true, decide_false, decide_true, sub_i64, if_false, if_true, Ret_ret, result_1]
  · simp (disch := omega) only [WK_skip, WK_seq, WX_seq, WX_seq_exit, WX_seq_ret, WK_block, WX_block, WX_block_ret, WX_block_eq, WK_exit, WK_ret, WK_scope, WK_cond, WK_ops, WK_draw, WX_loop, WX_loop_exit, WX_loop_ret, WX_nil, WB_true, WB_false, WOs_nil, WDs_nil, WV_some, WA_some, WE_some, WDV_zero, WDE_none, putD_some, putD_none, WOs_g, WG_tt, WG_ff, WG_tf, WG_ft, WG_un, WOs_mov, WOs_bin, WOs_un, WOs_pick, WOs_toInt, WOs_len, WOs_load, WOs_iaddr, WOs_extr, WOs_call, WOs_store, WOs_append, WOs_slice, WOs_mx, WOs_mn, WOs_build, WOs_bslice, WOs_alloc, WDs_mov, WDs_bin, WDs_call, evalQ_mov, evalQ_bin, evalQ_un, evalQ_pick, evalQ_toInt, evalQ_len, evalQ_load, evalQ_iaddr, evalQ_extr, evalQ_mx, evalQ_mn, evalE_fn, evalE_append, evs_cons, evs_nil, ev_tmp, ev_lit, nth_zero, nth_succ, put_zero, put_succ, pickV_tt, pickV_ff, extrV_0, extrV_1, extrV_2, WOs_faddr, evalQ_faddr, faddrV_0, faddrV_1, faddrV_2, ld0 g0, ld1 g0, ld2 g0, ld0 g1, ld1 g1, ld2 g1, neq_int, ne_eq, e1, not_false_eq_true, decide_true, sub_i64, if_true, Ret_ret, result_1]
noncomputable def L7 : Oracle := ext L6 57 cmpS
theorem L7_ok : IOK Go.Proofs.Try.prog L7 := IOK.extL mixed tabOK otabOK L6_ok (g := 57) (fn := af57) rfl fun args av h => by
  unfold cmpS at h
  split at h
  · split at h
    · rename_i hn; cases h; exact ⟨rfl, rfl, cmp_run hn.1 hn.2.1 hn.2.2.1 hn.2.2.2.1 hn.2.2.2.2.1 hn.2.2.2.2.2⟩
    · cases h
  · cases h
theorem qred_run {A B C : Int} (hb : small B) : ∃ h', lim otab.get L7 (.fn 54) [fV A B C] .empty = some (.bool (decide (isRed (A, B, C))), h') := by
  refine run_of (fn := of54) rfl rfl ?_
  show WK _ _ [] ⟨[fV A B C, aundef, aundef, aundef, aundef], .empty⟩ _
  dsimp only [of54]
  have g0 : (AHeap.empty.push (.cells (fC A B C) true)).get 0 = some (.cells (fC A B C) true) := AHeap.get_push_same AHeap.empty _
  unfold small at hb
  by_cases e1 : (B.natAbs : Int) ≤ A
  · by_cases e2 : A ≤ C
    · by_cases e3 : 0 ≤ B
      · have : isRed (A, B, C) := ⟨e1, e2, .inl e3⟩
        simp (disch := omega) only [WK_skip, WK_seq, WX_seq, WX_seq_exit, WX_seq_ret, WK_block, WX_block, WX_block_ret, WX_block_eq, WK_exit, WK_ret, WK_scope, WK_cond, WK_ops, WK_draw, WX_loop, WX_loop_exit, WX_loop_ret, WX_nil, WB_true, WB_false, WOs_nil, WDs_nil, WV_some, WA_some, WE_some, WDV_zero, WDE_none, putD_some, putD_none, WOs_g, WG_tt, WG_ff, WG_tf, WG_ft, WG_un, WOs_mov, WOs_bin, WOs_un, WOs_pick, WOs_toInt, WOs_len, WOs_load, WOs_iaddr, WOs_extr, WOs_call, WOs_store, WOs_append, WOs_slice, WOs_mx, WOs_mn, WOs_build, WOs_bslice, WOs_alloc, WDs_mov, WDs_bin, WDs_call, evalQ_mov, evalQ_bin, evalQ_un, evalQ_pick, evalQ_toInt, evalQ_len, evalQ_load, evalQ_iaddr, evalQ_extr, evalQ_mx, evalQ_mn, evalE_fn, evalE_append, evs_cons, evs_nil, ev_tmp, ev_lit, nth_zero, nth_succ, put_zero, put_succ, pickV_tt, pickV_ff, extrV_0, extrV_1, extrV_2, WOs_box, evalA_box, cells_agg, WOs_faddr, evalQ_faddr, faddrV_0, faddrV_1, faddrV_2, ld0 g0, ld1 g0, ld2 g0, neg_i64, max_int, max_abs, leq_int, geq_int, lss_int, e1, e2, e3, decide_true, Ret_ret, result_1, this]
      · by_cases e4 : (B.natAbs : Int) < A
        · have : isRed (A, B, C) ↔ A < C := by unfold isRed; dsimp only; omega
          simp (disch := omega) only [WK_skip, WK_seq, WX_seq, WX_seq_exit, WX_seq_ret, WK_block, WX_block, WX_block_ret, WX_block_eq, WK_exit, WK_ret, WK_scope, WK_cond, WK_ops, WK_draw, WX_loop, WX_loop_exit, WX_loop_ret, WX_nil, WB_true, WB_false, WOs_nil, WDs_nil, WV_some, WA_some, WE_some, WDV_zero, WDE_none, putD_some, putD_none, WOs_g, WG_tt, WG_ff, WG_tf, WG_ft, WG_un, WOs_mov, WOs_bin, WOs_un, WOs_pick, WOs_toInt, WOs_len, WOs_load, WOs_iaddr, WOs_extr, WOs_call, WOs_store, WOs_append, WOs_slice, WOs_mx, WOs_mn, WOs_build, WOs_bslice, WOs_alloc, WDs_mov, WDs_bin, WDs_call, evalQ_mov, evalQ_bin, evalQ_un, evalQ_pick, evalQ_toInt, evalQ_len, evalQ_load, evalQ_iaddr, evalQ_extr, evalQ_mx, evalQ_mn, evalE_fn, evalE_append, evs_cons, evs_nil, ev_tmp, ev_lit, nth_zero, nth_succ, put_zero, put_succ, pickV_tt, pickV_ff, extrV_0, extrV_1, extrV_2, WOs_box, evalA_box, cells_agg, WOs_faddr, evalQ_faddr, faddrV_0, faddrV_1, faddrV_2, ld0 g0, ld1 g0, ld2 g0, neg_i64, max_int, max_abs, leq_int, geq_int, lss_int, e1, e2, e3, e4, decide_true, decide_false, Ret_ret, result_1, decide_eq_decide.2 this]
        · have : ¬ isRed (A, B, C) := by unfold isRed; dsimp only; omega
          simp (disch := omega) only [WK_skip, WK_seq, WX_seq, WX_seq_exit, WX_seq_ret, WK_block, WX_block, WX_block_ret, WX_block_eq, WK_exit, WK_ret, WK_scope, WK_cond, WK_ops, WK_draw, WX_loop, WX_loop_exit, WX_loop_ret, WX_nil, WB_true, WB_false, WOs_nil, WDs_nil, WV_some, WA_some, WE_some, WDV_zero, WDE_none, putD_some, putD_none, WOs_g, WG_tt, WG_ff, WG_tf, WG_ft, WG_un, WOs_mov, WOs_bin, WOs_un, WOs_pick, WOs_toInt, WOs_len, WOs_load, WOs_iaddr, WOs_extr, WOs_call, WOs_store, WOs_append, WOs_slice, WOs_mx, WOs_mn, WOs_build, WOs_bslice, WOs_alloc, WDs_mov, WDs_bin, WDs_call, evalQ_mov, evalQ_bin, evalQ_un, evalQ_pick, evalQ_toInt, evalQ_len, evalQ_load, evalQ_iaddr, evalQ_extr, evalQ_mx, evalQ_mn, evalE_fn, evalE_append, evs_cons, evs_nil, ev_tmp, ev_lit, nth_zero, nth_succ, put_zero, put_succ, pickV_tt, pickV_ff, extrV_0, extrV_1, extrV_2, WOs_box, evalA_box, cells_agg, WOs_faddr, evalQ_faddr, faddrV_0, faddrV_1, faddrV_2, ld0 g0, ld1 g0, ld2 g0, neg_i64, max_int, max_abs, leq_int, geq_int, lss_int, e1, e2, e3, e4, decide_true, decide_false, Ret_ret, result_1, this]
    · have : ¬ isRed (A, B, C) := fun h => e2 h.2.1
      simp (disch := omega) only [WK_skip, WK_seq, WX_seq, WX_seq_exit, WX_seq_ret, WK_block, WX_block, WX_block_ret, WX_block_eq, WK_exit, WK_ret, WK_scope, WK_cond, WK_ops, WK_draw, WX_loop, WX_loop_exit, WX_loop_ret, WX_nil, WB_true, WB_false, WOs_nil, WDs_nil, WV_some, WA_some, WE_some, WDV_zero, WDE_none, putD_some, putD_none, WOs_g, WG_tt, WG_ff, WG_tf, WG_ft, WG_un, WOs_mov, WOs_bin, WOs_un, WOs_pick, WOs_toInt, WOs_len, WOs_load, WOs_iaddr, WOs_extr, WOs_call, WOs_store, WOs_append, WOs_slice, WOs_mx, WOs_mn, WOs_build, WOs_bslice, WOs_alloc, WDs_mov, WDs_bin, WDs_call, evalQ_mov, evalQ_bin, evalQ_un, evalQ_pick, evalQ_toInt, evalQ_len, evalQ_load, evalQ_iaddr, evalQ_extr, evalQ_mx, evalQ_mn, evalE_fn, evalE_append, evs_cons, evs_nil, ev_tmp, ev_lit, nth_zero, nth_succ, put_zero, put_succ, pickV_tt, pickV_ff, extrV_0, extrV_1, extrV_2, WOs_box, evalA_box, cells_agg, WOs_faddr, evalQ_faddr, faddrV_0, faddrV_1, faddrV_2, ld0 g0, ld1 g0, ld2 g0, neg_i64, max_int, max_abs, leq_int, geq_int, lss_int, e1, e2, decide_true, decide_false, Ret_ret, result_1, this]
  · have : ¬ isRed (A, B, C) := fun h => e1 h.1
    simp (disch := omega) only [WK_skip, WK_seq, WX_seq, WX_seq_exit, WX_seq_ret, WK_block, WX_block, WX_block_ret, WX_block_eq, WK_exit, WK_ret, WK_scope, WK_cond, WK_ops, WK_draw, WX_loop, WX_loop_exit, WX_loop_ret, WX_nil, WB_true, WB_false, WOs_nil, WDs_nil, WV_some, WA_some, WE_some, WDV_zero, WDE_none, putD_some, putD_none, WOs_g, WG_tt, WG_ff, WG_tf, WG_ft, WG_un, WOs_mov, WOs_bin, WOs_un, WOs_pick, WOs_toInt, WOs_len, WOs_load, WOs_iaddr, WOs_extr, WOs_call, WOs_store, WOs_append, WOs_slice, WOs_mx, WOs_mn, WOs_build, WOs_bslice, WOs_alloc, WDs_mov, WDs_bin, WDs_call, evalQ_mov, evalQ_bin, evalQ_un, evalQ_pick, evalQ_toInt, evalQ_len, evalQ_load, evalQ_iaddr, evalQ_extr, evalQ_mx, evalQ_mn, evalE_fn, evalE_append, evs_cons, evs_nil, ev_tmp, ev_lit, nth_zero, nth_succ, put_zero, put_succ, pickV_tt, pickV_ff, extrV_0, extrV_1, extrV_2, WOs_box, evalA_box, cells_agg, WOs_faddr, evalQ_faddr, faddrV_0, faddrV_1, faddrV_2, ld0 g0, ld1 g0, ld2 g0, neg_i64, max_int, max_abs, leq_int, geq_int, lss_int, e1, decide_false, Ret_ret, result_1, this]
noncomputable def L8 : Oracle := ext L7 54 isRedS
theorem L8_ok : IOK Go.Proofs.Try.prog L8 := IOK.extL mixed tabOK otabOK L7_ok (g := 54) (fn := af54) rfl fun args av h => by
  unfold isRedS at h
  split at h
  · split at h
    · rename_i hn; cases h; exact ⟨rfl, rfl, qred_run hn.2.1⟩
    · cases h
  · cases h
end Go.AM
