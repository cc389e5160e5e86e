/- QuadraticEquivalence: the law's code answers true. No condition. -/
import Derived.Test.YtemmnocgkgoegaaRedLaw
import Derived.Test.YtemmnocgkgoegaaEqv
set_option maxRecDepth 100000
set_option linter.unusedSimpArgs false
namespace Go.AM
open Go
theorem WDG_ff {C : CallT} {K : List Fr} {Q : AX → St → Prop} {op : AOp} {m : Nat} {d : Option Nat} {r : List (AOper × Nat)} {ps : List ((AHeap → Bool) × Nat)} {tm : List AV} {h : AHeap} : WDG C (.bool false) false d op m r ps K tm h Q ↔ WDs C ((⟨d, op, none⟩, m) :: r) ps K ⟨tm, h⟩ Q := by simp [WDG]
def mx3v (a b c : Int) : Int := if c > (if b > a then b else a) then c else (if b > a then b else a)
def mn3v (a b c : Int) : Int := if c < (if b < a then b else a) then c else (if b < a then b else a)
theorem maxs3 {a b c : Int} : maxs (.int .i64 a) [.int .i64 b, .int .i64 c] = some (.int .i64 (mx3v a b c)) := by simp only [maxs, if_true, mx3v]
theorem mins3 {a b c : Int} : mins (.int .i64 a) [.int .i64 b, .int .i64 c] = some (.int .i64 (mn3v a b c)) := by simp only [mins, if_true, mn3v]
theorem mx3v_le {a b c : Int} (h : ¬ 1000 < mx3v a b c) : a ≤ 1000 ∧ b ≤ 1000 ∧ c ≤ 1000 := by
  unfold mx3v at h
  split at h <;> split at h <;> omega
theorem mn3v_le {a b c : Int} (h : ¬ mn3v a b c < -1000) : -1000 ≤ a ∧ -1000 ≤ b ∧ -1000 ≤ c := by
  unfold mn3v at h
  split at h <;> split at h <;> omega
abbrev z3 : List AV := [.int .i64 0, .int .i64 0, .int .i64 0]
theorem newObj {H : AHeap} {n : Nat} (l : List AV) (hn : H.next = n) : ((H.push (.cells z3 true)).set n (.cells l true)).next = n + 1 ∧ ((H.push (.cells z3 true)).set n (.cells l true)).get n = some (.cells l true) ∧ (∀ j, j < n → ((H.push (.cells z3 true)).set n (.cells l true)).get j = H.get j) ∧ (H.push (.cells z3 true)).get n = some (.cells z3 true) := by
  subst hn
  refine ⟨rfl, AHeap.get_set_same _ _ _, fun j hj => ?_, AHeap.get_push_same H _⟩
  rw [AHeap.get_set_ne _ _ (by omega), AHeap.get_push_lt _ _ hj]
theorem redV_of {A B C : Int} (hv : VF A B C) (hb : bd [A, B, C] = 0) : redV A B C = .tup [fVt (rd (A, B, C)), .int .i64 0] := by
  have e : 4 * A * C = 4 * (A * C) := Int.mul_assoc 4 A C
  have h1 := hv.a1
  have h2 := hv.d1
  unfold redV; rw [if_pos hb, if_pos ⟨by omega, by omega⟩]
theorem bd_zero3 {a b c : Int} (h1 : lg a = 0) (h2 : lg b = 0) (h3 : lg c = 0) : bd [a, b, c] = 0 := by simp [bd, h1, h2, h3]
theorem lg_zero {a : Int} (h1 : -100000 ≤ a) (h2 : a ≤ 100000) : lg a = 0 := by unfold lg; rw [if_neg (by omega)]
theorem neqF {f g : F3} : bin .neq (.flat [1, 1, 1]) (fVt g) (fVt f) = some (.bool (!decide (g = f))) := by
  have h := eqF (f := f) (g := g)
  have e : eqv (.flat [1, 1, 1]) (fVt g) (fVt f) = some (decide (g = f)) := by
    have h2 : (match eqv (.flat [1, 1, 1]) (fVt g) (fVt f) with | some b => some (AV.bool b) | none => none) = some (.bool (decide (g = f))) := h
    cases hq : eqv (.flat [1, 1, 1]) (fVt g) (fVt f) with
    | none => rw [hq] at h2; cases h2
    | some b => rw [hq] at h2; cases h2; rfl
  show (match eqv (.flat [1, 1, 1]) (fVt g) (fVt f) with | some b => some (AV.bool (!b)) | none => none) = _
  rw [e]
section
variable {h : AHeap}
theorem c_isRed7 {g : F3} (hv : VT g) : lim otab.get K7 (.fn 33) [fVt g] h = some (.bool (decide (isRed g)), h) := by
  obtain ⟨A, B, C⟩ := g
  have hv : VF A B C := hv
  have hc := hv.c
  have a1 := hv.a1
  have a2 := hv.a2
  have b1 := hv.b1
  have b2 := hv.b2
  exact lim_oracle (or_hit (spec := isRedS) (if_pos ⟨by show small A; unfold small; omega, by show small B; unfold small; omega, by show small C; unfold small; omega⟩))
theorem c_disc7 {g : F3} (hv : VT g) : lim otab.get K7 (.fn 34) [fVt g] h = some (.int .i64 (dsc3 g), h) := by
  obtain ⟨A, B, C⟩ := g
  have hv : VF A B C := hv
  have hc := hv.c
  have a1 := hv.a1
  have a2 := hv.a2
  have b1 := hv.b1
  have b2 := hv.b2
  have e : dsc3 (A, B, C) = B * B - 4 * A * C := by unfold dsc3; rw [Int.mul_assoc 4 A C]
  rw [e]
  have w1 : lim5 A := ⟨by omega, by omega⟩
  have w2 : lim5 B := ⟨by omega, by omega⟩
  have w3 : limC C := ⟨by omega, by omega⟩
  exact lim_oracle (or_hit (spec := discS) (if_pos ⟨w1, w2, w3⟩))
theorem c_redt7 {g : F3} : lim otab.get K7 (.fn 25) [fVt g] h = some (redV g.1 g.2.1 g.2.2, h) := lim_oracle rfl
end
theorem eqvLaw (A B C k : Int) (hk1 : -128 ≤ k) (hk2 : k ≤ 127) : ∃ h', lim otab.get K7 (.fn 9) [fV A B C, .int .i8 k] .empty = some (.bool true, h') := by
  refine run_of (fn := of9) rfl rfl ?_
  show WK _ _ [] ⟨[fV A B C, .int .i8 k, aundef, aundef, aundef, aundef, aundef, aundef], .empty⟩ _
  dsimp only [of9]
  obtain ⟨H, hH⟩ : ∃ H, H = AHeap.empty.push (.cells (fC A B C) true) := ⟨_, rfl⟩
  have g0 : H.get 0 = some (.cells (fC A B C) true) := by rw [hH]; exact AHeap.get_push_same AHeap.empty _
  have hnx : H.next = 1 := by rw [hH]; rfl
  have c1 := lg_cases A
  by_cases h1 : 1000 < mx3v A B C
  · simp only [WK_skip, WK_seq, WX_seq, WX_seq_exit, WX_seq_ret, WK_block, WX_block, WX_block_ret, WX_block_eq, WK_exit, WK_ret, WK_scope, WK_cond, WK_ops, WK_draw, WX_loop, WX_loop_exit, WX_loop_ret, WX_nil, WB_true, WB_false, WOs_nil, WDs_nil, WV_some, WA_some, WE_some, WDV_zero, WDE_none, putD_some, putD_none, WOs_g, WG_tt, WG_ff, WG_tf, WG_ft, WG_un, WOs_mov, WOs_bin, WOs_un, WOs_pick, WOs_toInt, WOs_len, WOs_load, WOs_iaddr, WOs_indexS, WOs_extr, WOs_field, WOs_toStr, WOs_call, WOs_store, WOs_append, WOs_slice, WOs_mx, WOs_mn, WOs_build, WOs_bslice, WOs_mkslice, WOs_alloc, WOs_lenA, WDs_mov, WDs_bin, WDs_call, evalQ_mov, evalQ_bin, evalQ_un, evalQ_pick, evalQ_toInt, evalQ_len, evalQ_load, evalQ_iaddr, evalQ_indexS, evalQ_extr, evalQ_field, evalQ_mx, evalQ_mn, evalQ_lenA, evalE_fn, evalE_append, evs_cons, evs_nil, ev_tmp, ev_lit, nth_zero, nth_succ, put_zero, put_succ, pickV_tt, pickV_ff, extrV_0, extrV_1, extrV_2, WOs_box, evalA_box, cells_agg, ← hH, WOs_faddr, evalQ_faddr, faddrV_0, faddrV_1, faddrV_2, ld0 g0, ld1 g0, ld2 g0, maxs3, gtr_int, h1, decide_true, c_aw7, Ret_ret, result_1]
  by_cases h2 : mn3v A B C < -1000
  · simp only [WK_skip, WK_seq, WX_seq, WX_seq_exit, WX_seq_ret, WK_block, WX_block, WX_block_ret, WX_block_eq, WK_exit, WK_ret, WK_scope, WK_cond, WK_ops, WK_draw, WX_loop, WX_loop_exit, WX_loop_ret, WX_nil, WB_true, WB_false, WOs_nil, WDs_nil, WV_some, WA_some, WE_some, WDV_zero, WDE_none, putD_some, putD_none, WOs_g, WG_tt, WG_ff, WG_tf, WG_ft, WG_un, WOs_mov, WOs_bin, WOs_un, WOs_pick, WOs_toInt, WOs_len, WOs_load, WOs_iaddr, WOs_indexS, WOs_extr, WOs_field, WOs_toStr, WOs_call, WOs_store, WOs_append, WOs_slice, WOs_mx, WOs_mn, WOs_build, WOs_bslice, WOs_mkslice, WOs_alloc, WOs_lenA, WDs_mov, WDs_bin, WDs_call, evalQ_mov, evalQ_bin, evalQ_un, evalQ_pick, evalQ_toInt, evalQ_len, evalQ_load, evalQ_iaddr, evalQ_indexS, evalQ_extr, evalQ_field, evalQ_mx, evalQ_mn, evalQ_lenA, evalE_fn, evalE_append, evs_cons, evs_nil, ev_tmp, ev_lit, nth_zero, nth_succ, put_zero, put_succ, pickV_tt, pickV_ff, extrV_0, extrV_1, extrV_2, WOs_box, evalA_box, cells_agg, ← hH, WOs_faddr, evalQ_faddr, faddrV_0, faddrV_1, faddrV_2, ld0 g0, ld1 g0, ld2 g0, maxs3, mins3, gtr_int, lss_int, h1, h2, decide_true, decide_false, c_aw7, Ret_ret, result_1]
  by_cases h3 : 20 < k
  · simp only [WK_skip, WK_seq, WX_seq, WX_seq_exit, WX_seq_ret, WK_block, WX_block, WX_block_ret, WX_block_eq, WK_exit, WK_ret, WK_scope, WK_cond, WK_ops, WK_draw, WX_loop, WX_loop_exit, WX_loop_ret, WX_nil, WB_true, WB_false, WOs_nil, WDs_nil, WV_some, WA_some, WE_some, WDV_zero, WDE_none, putD_some, putD_none, WOs_g, WG_tt, WG_ff, WG_tf, WG_ft, WG_un, WOs_mov, WOs_bin, WOs_un, WOs_pick, WOs_toInt, WOs_len, WOs_load, WOs_iaddr, WOs_indexS, WOs_extr, WOs_field, WOs_toStr, WOs_call, WOs_store, WOs_append, WOs_slice, WOs_mx, WOs_mn, WOs_build, WOs_bslice, WOs_mkslice, WOs_alloc, WOs_lenA, WDs_mov, WDs_bin, WDs_call, evalQ_mov, evalQ_bin, evalQ_un, evalQ_pick, evalQ_toInt, evalQ_len, evalQ_load, evalQ_iaddr, evalQ_indexS, evalQ_extr, evalQ_field, evalQ_mx, evalQ_mn, evalQ_lenA, evalE_fn, evalE_append, evs_cons, evs_nil, ev_tmp, ev_lit, nth_zero, nth_succ, put_zero, put_succ, pickV_tt, pickV_ff, extrV_0, extrV_1, extrV_2, WOs_box, evalA_box, cells_agg, ← hH, WOs_faddr, evalQ_faddr, faddrV_0, faddrV_1, faddrV_2, ld0 g0, ld1 g0, ld2 g0, maxs3, mins3, gtr_int, lss_int, h1, h2, h3, decide_true, decide_false, c_aw7, Ret_ret, result_1]
  by_cases h4 : k < -20
  · simp only [WK_skip, WK_seq, WX_seq, WX_seq_exit, WX_seq_ret, WK_block, WX_block, WX_block_ret, WX_block_eq, WK_exit, WK_ret, WK_scope, WK_cond, WK_ops, WK_draw, WX_loop, WX_loop_exit, WX_loop_ret, WX_nil, WB_true, WB_false, WOs_nil, WDs_nil, WV_some, WA_some, WE_some, WDV_zero, WDE_none, putD_some, putD_none, WOs_g, WG_tt, WG_ff, WG_tf, WG_ft, WG_un, WOs_mov, WOs_bin, WOs_un, WOs_pick, WOs_toInt, WOs_len, WOs_load, WOs_iaddr, WOs_indexS, WOs_extr, WOs_field, WOs_toStr, WOs_call, WOs_store, WOs_append, WOs_slice, WOs_mx, WOs_mn, WOs_build, WOs_bslice, WOs_mkslice, WOs_alloc, WOs_lenA, WDs_mov, WDs_bin, WDs_call, evalQ_mov, evalQ_bin, evalQ_un, evalQ_pick, evalQ_toInt, evalQ_len, evalQ_load, evalQ_iaddr, evalQ_indexS, evalQ_extr, evalQ_field, evalQ_mx, evalQ_mn, evalQ_lenA, evalE_fn, evalE_append, evs_cons, evs_nil, ev_tmp, ev_lit, nth_zero, nth_succ, put_zero, put_succ, pickV_tt, pickV_ff, extrV_0, extrV_1, extrV_2, WOs_box, evalA_box, cells_agg, ← hH, WOs_faddr, evalQ_faddr, faddrV_0, faddrV_1, faddrV_2, ld0 g0, ld1 g0, ld2 g0, maxs3, mins3, gtr_int, lss_int, h1, h2, h3, h4, decide_true, decide_false, c_aw7, Ret_ret, result_1]
  obtain ⟨u1, u2, u3⟩ := mx3v_le h1
  obtain ⟨v1, v2, v3⟩ := mn3v_le h2
  have l1 : lim5 A := ⟨by omega, by omega⟩
  have l2 : lim5 B := ⟨by omega, by omega⟩
  have l3 : lim5 C := ⟨by omega, by omega⟩
  by_cases hp : B * B - 4 * A * C < 0 ∧ 0 < A
  · have hv : VF A B C := VF_of l1 l2 l3 hp.2 hp.1
    have hr := redV_of hv (bd_zero3 (lg_zero l1.1 l1.2) (lg_zero l2.1 l2.2) (lg_zero l3.1 l3.2))
    have hvt : VT (A, B, C) := hv
    obtain ⟨r1, r2⟩ := rd_red hvt
    have rdd := dsc_rd hvt
    have a1 := hv.a1
    -- the numbers of the moved form
    have p1 := mul_le_abs (x := A) (y := k) (X := 1000) (Y := 20) (by omega) (by omega) (by omega) (by omega)
    have p2 := mul_le_abs (x := A * k) (y := k) (X := 20000) (Y := 20) (by omega) (by omega) (by omega) (by omega)
    have p3 := mul_le_abs (x := B) (y := k) (X := 1000) (Y := 20) (by omega) (by omega) (by omega) (by omega)
    have e1 : 2 * k * A = 2 * A * k := by rw [Int.mul_assoc, Int.mul_comm k A, ← Int.mul_assoc]
    have e2 : 2 * A * k = 2 * (A * k) := Int.mul_assoc 2 A k
    have lB : lg (B + 2 * A * k) = 0 := lg_zero (by omega) (by omega)
    have lA : lg A = 0 := lg_zero l1.1 l1.2
    have lB0 : lg (-B) = 0 := lg_zero (by have := l2.1; have := l2.2; omega) (by have := l2.1; have := l2.2; omega)
    have lC0 : lg C = 0 := lg_zero l3.1 l3.2
    have hmv : VF A (B + 2 * A * k) (A * k * k + B * k + C) := by
      have hd := disc_id A B C k
      exact ⟨hv.a1, hv.a2, by omega, by omega, by rw [hd]; exact hv.d1, by rw [hd]; exact hv.d2⟩
    have hrm := rd_move (n := k) hv hmv
    have hrt := rd_turn hv l3.2
    have htv := hv.turn l3.2
    have htr := redV_of htv (bd_zero3 lC0 lB0 lA)
    rw [hrt] at htr
    generalize hG : rd (A, B, C) = G at hr r1 r2 rdd hrm htr
    -- the heaps
    obtain ⟨H1, f1⟩ : ∃ H1, H1 = (H.push (.cells z3 true)).set 1 (.cells (fCt G) true) := ⟨_, rfl⟩
    obtain ⟨n1, o1, q1, w1⟩ := newObj (fCt G) hnx
    rw [← f1] at n1 o1 q1
    obtain ⟨H2, f2⟩ : ∃ H2, H2 = (H1.push (.cells z3 true)).set 2 (.cells (fC A (B + 2 * A * k) (A * k * k + B * k + C)) true) := ⟨_, rfl⟩
    obtain ⟨n2, o2, q2, w2⟩ := newObj (fC A (B + 2 * A * k) (A * k * k + B * k + C)) n1
    rw [← f2] at n2 o2 q2
    obtain ⟨H3, f3⟩ : ∃ H3, H3 = (H2.push (.cells z3 true)).set 3 (.cells (fC C (-B) A) true) := ⟨_, rfl⟩
    obtain ⟨n3, o3, q3, w3⟩ := newObj (fC C (-B) A) n2
    rw [← f3] at n3 o3 q3
    obtain ⟨H4, f4⟩ : ∃ H4, H4 = (H3.push (.cells z3 true)).set 4 (.cells (fCt G) true) := ⟨_, rfl⟩
    obtain ⟨n4, o4, q4, w4⟩ := newObj (fCt G) n3
    rw [← f4] at n4 o4 q4
    obtain ⟨H5, f5⟩ : ∃ H5, H5 = (H4.push (.cells z3 true)).set 5 (.cells (fCt G) true) := ⟨_, rfl⟩
    obtain ⟨n5, o5, q5, w5⟩ := newObj (fCt G) n4
    rw [← f5] at n5 o5 q5
    have H10 : H1.get 0 = some (.cells (fC A B C) true) := by rw [q1 0 (by decide)]; exact g0
    have H20 : H2.get 0 = some (.cells (fC A B C) true) := by rw [q2 0 (by decide)]; exact H10
    have H30 : H3.get 0 = some (.cells (fC A B C) true) := by rw [q3 0 (by decide)]; exact H20
    have H21 : H2.get 1 = some (.cells (fCt G) true) := by rw [q2 1 (by decide)]; exact o1
    have H31 : H3.get 1 = some (.cells (fCt G) true) := by rw [q3 1 (by decide)]; exact H21
    have H32 : H3.get 2 = some (.cells (fC A (B + 2 * A * k) (A * k * k + B * k + C)) true) := by rw [q3 2 (by decide)]; exact o2
    have H41 : H4.get 1 = some (.cells (fCt G) true) := by rw [q4 1 (by decide)]; exact H31
    have H43 : H4.get 3 = some (.cells (fC C (-B) A) true) := by rw [q4 3 (by decide)]; exact o3
    have H51 : H5.get 1 = some (.cells (fCt G) true) := by rw [q5 1 (by decide)]; exact H41
    have s1 := stV3 (x := .int .i64 G.1) (y := .int .i64 G.2.1) (z := .int .i64 G.2.2) w1 rfl rfl rfl
    have s2 := stV3 (x := .int .i64 A) (y := .int .i64 (B + 2 * A * k)) (z := .int .i64 (A * k * k + B * k + C)) w2 rfl rfl rfl
    have s3 := stV3 (x := .int .i64 C) (y := .int .i64 (-B)) (z := .int .i64 A) w3 rfl rfl rfl
    have s4 := stV3 (x := .int .i64 G.1) (y := .int .i64 G.2.1) (z := .int .i64 G.2.2) w4 rfl rfl rfl
    have s5 := stV3 (x := .int .i64 G.1) (y := .int .i64 G.2.1) (z := .int .i64 G.2.2) w5 rfl rfl rfl
    rw [← f1] at s1
    rw [← f2] at s2
    rw [← f3] at s3
    rw [← f4] at s4
    rw [← f5] at s5
    have b1 : ∀ (tm : List AV) (h : AHeap), nth tm 3 = .int .i64 A → nth tm 4 = .int .i64 (B + 2 * A * k) → nth tm 1 = .int .i64 (A * k * k + B * k + C) → evalQ (.build [.int .i64 0, .int .i64 0, .int .i64 0] [(0, (1, .tmp 3)), (1, (1, .tmp 4)), (2, (1, .tmp 1))]) tm h = some (fV A (B + 2 * A * k) (A * k * k + B * k + C)) := fun tm h x y z => build3 x y z
    have cdf : ∀ h, lim otab.get K7 (.fn 34) [fV A B C] h = some (.int .i64 (dsc3 (A, B, C)), h) := fun h => c_disc7 hvt
    have crf : ∀ h, lim otab.get K7 (.fn 25) [fV A B C] h = some (.tup [fVt G, .int .i64 0], h) := fun h => by rw [← hr]; exact c_red7
    have crt : ∀ h, lim otab.get K7 (.fn 25) [fV C (-B) A] h = some (.tup [fVt G, .int .i64 0], h) := fun h => by rw [← htr]; exact c_red7
    simp (disch := omega) only [WK_skip, WK_seq, WX_seq, WX_seq_exit, WX_seq_ret, WK_block, WX_block, WX_block_ret, WX_block_eq, WK_exit, WK_ret, WK_scope, WK_cond, WK_ops, WK_draw, WX_loop, WX_loop_exit, WX_loop_ret, WX_nil, WB_true, WB_false, WOs_nil, WDs_nil, WV_some, WA_some, WE_some, WDV_zero, WDE_none, putD_some, putD_none, WOs_g, WG_tt, WG_ff, WG_tf, WG_ft, WG_un, WOs_mov, WOs_bin, WOs_un, WOs_pick, WOs_toInt, WOs_len, WOs_load, WOs_iaddr, WOs_indexS, WOs_extr, WOs_field, WOs_toStr, WOs_call, WOs_store, WOs_append, WOs_slice, WOs_mx, WOs_mn, WOs_build, WOs_bslice, WOs_mkslice, WOs_alloc, WOs_lenA, WDs_mov, WDs_bin, WDs_call, evalQ_mov, evalQ_bin, evalQ_un, evalQ_pick, evalQ_toInt, evalQ_len, evalQ_load, evalQ_iaddr, evalQ_indexS, evalQ_extr, evalQ_field, evalQ_mx, evalQ_mn, evalQ_lenA, evalE_fn, evalE_append, evs_cons, evs_nil, ev_tmp, ev_lit, nth_zero, nth_succ, put_zero, put_succ, pickV_tt, pickV_ff, extrV_0, extrV_1, extrV_2, WOs_box, evalA_box, cells_agg, ← hH, WOs_faddr, evalQ_faddr, faddrV_0, faddrV_1, faddrV_2, ld0 g0, ld1 g0, ld2 g0, ldS g0, maxs3, mins3, gtr_int, lss_int, h1, h2, h3, h4, decide_true, decide_false, c_pos7 l1 l2 l3, hp, and_self, not_bool, Bool.not_true,
      crf, evalA_alloc, hnx, evalE_store, s1, toIntV_i64, ld0 H10, ld1 H10, ld2 H10, mul_i64, add_i64, e1]
    rw [b1 _ _ rfl rfl rfl]
    simp (disch := omega) only [WK_skip, WK_seq, WX_seq, WX_seq_exit, WX_seq_ret, WK_block, WX_block, WX_block_ret, WX_block_eq, WK_exit, WK_ret, WK_scope, WK_cond, WK_ops, WK_draw, WX_loop, WX_loop_exit, WX_loop_ret, WX_nil, WB_true, WB_false, WOs_nil, WDs_nil, WV_some, WA_some, WE_some, WDV_zero, WDE_none, putD_some, putD_none, WOs_g, WG_tt, WG_ff, WG_tf, WG_ft, WG_un, WOs_mov, WOs_bin, WOs_un, WOs_pick, WOs_toInt, WOs_len, WOs_load, WOs_iaddr, WOs_indexS, WOs_extr, WOs_field, WOs_toStr, WOs_call, WOs_store, WOs_append, WOs_slice, WOs_mx, WOs_mn, WOs_build, WOs_bslice, WOs_mkslice, WOs_alloc, WOs_lenA, WDs_mov, WDs_bin, WDs_call, evalQ_mov, evalQ_bin, evalQ_un, evalQ_pick, evalQ_toInt, evalQ_len, evalQ_load, evalQ_iaddr, evalQ_indexS, evalQ_extr, evalQ_field, evalQ_mx, evalQ_mn, evalQ_lenA, evalE_fn, evalE_append, evs_cons, evs_nil, ev_tmp, ev_lit, nth_zero, nth_succ, put_zero, put_succ, pickV_tt, pickV_ff, extrV_0, extrV_1, extrV_2, evalA_alloc, n1, evalE_store, s2, WOs_faddr, evalQ_faddr, faddrV_0, faddrV_1, faddrV_2, ld0 H20, ld1 H20, ld2 H20, neg_i64]
    rw [build3 (a := C) (b := -B) (c := A) rfl rfl rfl]
    simp only [WK_skip, WK_seq, WX_seq, WX_seq_exit, WX_seq_ret, WK_block, WX_block, WX_block_ret, WX_block_eq, WK_exit, WK_ret, WK_scope, WK_cond, WK_ops, WK_draw, WX_loop, WX_loop_exit, WX_loop_ret, WX_nil, WB_true, WB_false, WOs_nil, WDs_nil, WV_some, WA_some, WE_some, WDV_zero, WDE_none, putD_some, putD_none, WOs_g, WG_tt, WG_ff, WG_tf, WG_ft, WG_un, WOs_mov, WOs_bin, WOs_un, WOs_pick, WOs_toInt, WOs_len, WOs_load, WOs_iaddr, WOs_indexS, WOs_extr, WOs_field, WOs_toStr, WOs_call, WOs_store, WOs_append, WOs_slice, WOs_mx, WOs_mn, WOs_build, WOs_bslice, WOs_mkslice, WOs_alloc, WOs_lenA, WDs_mov, WDs_bin, WDs_call, evalQ_mov, evalQ_bin, evalQ_un, evalQ_pick, evalQ_toInt, evalQ_len, evalQ_load, evalQ_iaddr, evalQ_indexS, evalQ_extr, evalQ_field, evalQ_mx, evalQ_mn, evalQ_lenA, evalE_fn, evalE_append, evs_cons, evs_nil, ev_tmp, ev_lit, nth_zero, nth_succ, put_zero, put_succ, pickV_tt, pickV_ff, extrV_0, extrV_1, extrV_2, evalA_alloc, n2, evalE_store, s3, WDs_load, WDs_g, WDG_ff, WDs_pick, WDs_un, WDV_succ, WDE_some, checks, lower, recheck, AOp.cls, AV.beq_refl, cond_true, true_and, neq_int, ne_eq, not_true_eq_false, decide_false, ldS H31, ldS H30, c_isRed7 r2, r1, decide_true, not_bool, Bool.not_true, c_disc7 r2, cdf, rdd,
      WOs_faddr, evalQ_faddr, faddrV_0, faddrV_1, faddrV_2, ld0 H32, ld1 H32, ld2 H32, c_large7, lA, lB, eql_int]
    rcases lg_cases (A * k * k + B * k + C) with ⟨hl, hl1, hl2⟩ | ⟨hl, _⟩
    · have hrmv := redV_of hmv (bd_zero3 lA lB hl)
      rw [hrm] at hrmv
      have crm : ∀ h, lim otab.get K7 (.fn 25) [fV A (B + 2 * A * k) (A * k * k + B * k + C)] h = some (.tup [fVt G, .int .i64 0], h) := fun h => by rw [← hrmv]; exact c_red7
      simp only [WK_skip, WK_seq, WX_seq, WX_seq_exit, WX_seq_ret, WK_block, WX_block, WX_block_ret, WX_block_eq, WK_exit, WK_ret, WK_scope, WK_cond, WK_ops, WK_draw, WX_loop, WX_loop_exit, WX_loop_ret, WX_nil, WB_true, WB_false, WOs_nil, WDs_nil, WV_some, WA_some, WE_some, WDV_zero, WDE_none, putD_some, putD_none, WOs_g, WG_tt, WG_ff, WG_tf, WG_ft, WG_un, WOs_mov, WOs_bin, WOs_un, WOs_pick, WOs_toInt, WOs_len, WOs_load, WOs_iaddr, WOs_indexS, WOs_extr, WOs_field, WOs_toStr, WOs_call, WOs_store, WOs_append, WOs_slice, WOs_mx, WOs_mn, WOs_build, WOs_bslice, WOs_mkslice, WOs_alloc, WOs_lenA, WDs_mov, WDs_bin, WDs_call, evalQ_mov, evalQ_bin, evalQ_un, evalQ_pick, evalQ_toInt, evalQ_len, evalQ_load, evalQ_iaddr, evalQ_indexS, evalQ_extr, evalQ_field, evalQ_mx, evalQ_mn, evalQ_lenA, evalE_fn, evalE_append, evs_cons, evs_nil, ev_tmp, ev_lit, nth_zero, nth_succ, put_zero, put_succ, pickV_tt, pickV_ff, extrV_0, extrV_1, extrV_2, hl, decide_true, ldS H32, crm, evalA_alloc, n3, evalE_store, s4, neq_int, ne_eq, not_true_eq_false, decide_false, ldS o4, ldS H41, neqF, Bool.not_true, ldS H43, crt, n4, s5, eql_int, ldS o5, ldS H51, eqF, c_aw7, Ret_ret, result_1]
    · simp only [WK_skip, WK_seq, WX_seq, WX_seq_exit, WX_seq_ret, WK_block, WX_block, WX_block_ret, WX_block_eq, WK_exit, WK_ret, WK_scope, WK_cond, WK_ops, WK_draw, WX_loop, WX_loop_exit, WX_loop_ret, WX_nil, WB_true, WB_false, WOs_nil, WDs_nil, WV_some, WA_some, WE_some, WDV_zero, WDE_none, putD_some, putD_none, WOs_g, WG_tt, WG_ff, WG_tf, WG_ft, WG_un, WOs_mov, WOs_bin, WOs_un, WOs_pick, WOs_toInt, WOs_len, WOs_load, WOs_iaddr, WOs_indexS, WOs_extr, WOs_field, WOs_toStr, WOs_call, WOs_store, WOs_append, WOs_slice, WOs_mx, WOs_mn, WOs_build, WOs_bslice, WOs_mkslice, WOs_alloc, WOs_lenA, WDs_mov, WDs_bin, WDs_call, evalQ_mov, evalQ_bin, evalQ_un, evalQ_pick, evalQ_toInt, evalQ_len, evalQ_load, evalQ_iaddr, evalQ_indexS, evalQ_extr, evalQ_field, evalQ_mx, evalQ_mn, evalQ_lenA, evalE_fn, evalE_append, evs_cons, evs_nil, ev_tmp, ev_lit, nth_zero, nth_succ, put_zero, put_succ, pickV_tt, pickV_ff, extrV_0, extrV_1, extrV_2, hl, show ((4 : Int) = 0) = False from by simp, decide_false, ldS o3, crt, evalA_alloc, n3, evalE_store, s4, eql_int, decide_true, ldS o4, ldS H41, eqF, c_aw7, Ret_ret, result_1]
  · simp only [WK_skip, WK_seq, WX_seq, WX_seq_exit, WX_seq_ret, WK_block, WX_block, WX_block_ret, WX_block_eq, WK_exit, WK_ret, WK_scope, WK_cond, WK_ops, WK_draw, WX_loop, WX_loop_exit, WX_loop_ret, WX_nil, WB_true, WB_false, WOs_nil, WDs_nil, WV_some, WA_some, WE_some, WDV_zero, WDE_none, putD_some, putD_none, WOs_g, WG_tt, WG_ff, WG_tf, WG_ft, WG_un, WOs_mov, WOs_bin, WOs_un, WOs_pick, WOs_toInt, WOs_len, WOs_load, WOs_iaddr, WOs_indexS, WOs_extr, WOs_field, WOs_toStr, WOs_call, WOs_store, WOs_append, WOs_slice, WOs_mx, WOs_mn, WOs_build, WOs_bslice, WOs_mkslice, WOs_alloc, WOs_lenA, WDs_mov, WDs_bin, WDs_call, evalQ_mov, evalQ_bin, evalQ_un, evalQ_pick, evalQ_toInt, evalQ_len, evalQ_load, evalQ_iaddr, evalQ_indexS, evalQ_extr, evalQ_field, evalQ_mx, evalQ_mn, evalQ_lenA, evalE_fn, evalE_append, evs_cons, evs_nil, ev_tmp, ev_lit, nth_zero, nth_succ, put_zero, put_succ, pickV_tt, pickV_ff, extrV_0, extrV_1, extrV_2, WOs_box, evalA_box, cells_agg, ← hH, WOs_faddr, evalQ_faddr, faddrV_0, faddrV_1, faddrV_2, ld0 g0, ld1 g0, ld2 g0, ldS g0, maxs3, mins3, gtr_int, lss_int, h1, h2, h3, h4, decide_true, decide_false, c_pos7 l1 l2 l3, hp, not_bool, Bool.not_false, c_aw7, Ret_ret, result_1]
end Go.AM
