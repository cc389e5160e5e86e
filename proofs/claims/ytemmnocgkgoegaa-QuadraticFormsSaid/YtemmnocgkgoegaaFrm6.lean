/- The list of reduced forms is in order; what Forms returns, of the program and of the reference. No condition. -/
import Derived.Test.YtemmnocgkgoegaaFrm5
set_option maxRecDepth 100000
set_option linter.unusedSimpArgs false
set_option linter.unusedVariables false
namespace Go.AM
open Go
/-- in order of A, then of B; within bounds -/
def ltF (f g : F3) : Prop := f.1 < g.1 ∨ (f.1 = g.1 ∧ f.2.1 < g.2.1)
def okF (f : F3) : Prop := 0 ≤ f.1 ∧ f.1 ≤ 100 ∧ -100 ≤ f.2.1 ∧ f.2.1 ≤ 100 ∧ 0 ≤ f.2.2 ∧ f.2.2 ≤ 20000
structure PW (L : List F3) : Prop where
  pw : L.Pairwise ltF
  ok : ∀ f ∈ L, okF f
theorem PW.nil : PW [] := ⟨.nil, fun _ h => nomatch h⟩
theorem itemL_cases {d : Int} {a : Nat} {b : Int} : itemL d a b = [] ∨ itemL d a b = [((a : Int), b, (b * b - d) / (4 * (a : Int)))] := by
  unfold itemL; split
  · split
    · exact .inr rfl
    · exact .inl rfl
  · exact .inl rfl
theorem rowF_pw {d : Int} (d1 : -10000 ≤ d) (d2 : d < 0) {a : Nat} (a1 : 1 ≤ a) (a2 : a ≤ 60) : ∀ (f : Nat) (b : Int) (L : List F3), b + f = a + 1 → -(a : Int) ≤ b → PW L → (∀ g ∈ L, g.1 < (a : Int) ∨ (g.1 = (a : Int) ∧ g.2.1 < b)) →
    PW (rowF d a f b L) ∧ ∀ g ∈ rowF d a f b L, g.1 < (a : Int) + 1
  | 0, b, L, hf, hb, H, hl => ⟨H, fun g hg => by have := hl g hg; omega⟩
  | f + 1, b, L, hf, hb, H, hl => by
    unfold rowF
    refine rowF_pw d1 d2 a1 a2 f (b + 1) _ (by omega) (by omega) ?_ ?_
    · rcases itemL_cases (d := d) (a := a) (b := b) with e | e
      · rw [e, List.append_nil]; exact H
      · rw [e]
        refine ⟨List.pairwise_append.2 ⟨H.pw, List.pairwise_singleton _ _, ?_⟩, ?_⟩
        · intro g hg g' hg'
          rw [List.mem_singleton] at hg'
          subst hg'
          exact hl g hg
        · intro g hg
          rw [List.mem_append, List.mem_singleton] at hg
          rcases hg with hg | rfl
          · exact H.ok g hg
          · have hbb : b * b ≤ 3600 := by
              have h1 : b.natAbs * b.natAbs ≤ 60 * 60 := Nat.mul_le_mul (by omega) (by omega)
              have h2 : ((b.natAbs * b.natAbs : Nat) : Int) = b * b := Int.natAbs_mul_self
              omega
            have hbb0 : 0 ≤ b * b := by
              have h2 : ((b.natAbs * b.natAbs : Nat) : Int) = b * b := Int.natAbs_mul_self
              omega
            have q0 : 0 ≤ (b * b - d) / (4 * (a : Int)) := Int.ediv_nonneg (by omega) (by omega)
            have q1 : (b * b - d) / (4 * (a : Int)) ≤ b * b - d := Int.ediv_le_self _ (by omega)
            exact ⟨by show (0 : Int) ≤ a; omega, by show (a : Int) ≤ 100; omega, by show -100 ≤ b; omega, by show b ≤ 100; omega, q0, by show (b * b - d) / (4 * (a : Int)) ≤ 20000; omega⟩
    · intro g hg
      rw [List.mem_append] at hg
      rcases hg with hg | hg
      · have := hl g hg; omega
      · rcases itemL_cases (d := d) (a := a) (b := b) with e | e
        · rw [e] at hg; nomatch hg
        · rw [e, List.mem_singleton] at hg
          subst hg
          exact .inr ⟨rfl, by show b < b + 1; omega⟩
theorem lstF_pw {d : Int} (d1 : -10000 ≤ d) (d2 : d < 0) : ∀ (f a : Nat) (L : List F3), a + f = 61 → 1 ≤ a → PW L → (∀ g ∈ L, g.1 < (a : Int)) → PW (lstF d f a L)
  | 0, a, L, hf, ha, H, hl => H
  | f + 1, a, L, hf, ha, H, hl => by
    unfold lstF; split
    · obtain ⟨h1, h2⟩ := rowF_pw d1 d2 ha (by omega) (2 * a + 1) (-(a : Int)) L (by omega) (by omega) H fun g hg => .inl (hl g hg)
      exact lstF_pw d1 d2 f (a + 1) _ (by omega) (by omega) h1 fun g hg => by have := h2 g hg; omega
    · exact H
theorem lstF_len {d : Int} : ∀ (f a : Nat) (L : List F3), a + f = 61 → (lstF d f a L).length ≤ L.length + 121 * f
  | 0, a, L, hf => Nat.le_refl _
  | f + 1, a, L, hf => by
    unfold lstF; split
    · have h1 := lstF_len (d := d) f (a + 1) (rowF d a (2 * a + 1) (-(a : Int)) L) (by omega)
      have h2 := rowF_len d a (2 * a + 1) (-(a : Int)) L
      omega
    · omega
/-- the list of the reduced forms with discriminant d -/
def formL (d : Int) : List F3 := lstF d 60 1 []
theorem formL_pw {d : Int} (d1 : -10000 ≤ d) (d2 : d < 0) : PW (formL d) := lstF_pw d1 d2 60 1 [] rfl (by decide) .nil fun g hg => nomatch hg
theorem formL_len {d : Int} : (formL d).length ≤ 7260 := lstF_len 60 1 [] rfl
theorem PW.srt {L : List F3} (H : PW L) (hn : L.length ≤ 7260) : Srt L := by
  refine ⟨fun i j hi hj => ?_, fun i hi => ?_, by omega⟩
  · have h := List.pairwise_iff_getElem.1 H.pw i j (by omega) hj hi
    unfold cmpV
    rcases h with h | ⟨h1, h2⟩
    · rw [if_pos (by omega)]; omega
    · rw [if_neg (by omega), if_pos (by omega)]; omega
  · obtain ⟨h1, h2, h3, h4, h5, h6⟩ := H.ok _ (List.getElem_mem hi)
    exact ⟨mid_of (by omega) (by omega), mid_of (by omega) (by omega), mid_of (by omega) (by omega)⟩
section
variable {h : AHeap}
theorem c_rfund8 {n : Int} : lim otab.get L8 (.fn 15) [.int .i64 n] h = some (.bool (decide (lg n = 0 ∧ fundP n)), h) := lim_oracle rfl
theorem c_large_8 {n : Int} : lim otab.get L8 (.fn 16) [.int .i64 n] h = some (.int .i64 (lg n), h) := lim_oracle rfl
theorem c_fund_8 {d : Int} (h1 : -100000 ≤ d) (h2 : d ≤ 100000) : lim otab.get L8 (.fn 42) [.int .i64 d] h = some (.bool (decide (fundP d)), h) :=
  lim_oracle (or_hit (spec := fundS) (if_pos ⟨h1, h2⟩))
theorem c_awake8 : lim otab.get L8 (.fn 17) [] h = some (.bool true, h) := lim_oracle rfl
/-- the reference's list -/
theorem rforms_ok {d : Int} (d1 : -10000 ≤ d) (d2 : d < 0) : ∃ b h', lim otab.get L8 (.fn 24) [.int .i64 d] h = some (b, h') ∧ LI h h' b (formL d) := by
  have key : WK (lim otab.get L8) of24.body [] ⟨[.int .i64 d, aundef, aundef, aundef, aundef, aundef, aundef, aundef, aundef], h⟩ fun x s => (∀ i, x ≠ .exit i) ∧ ∃ av, result of24.res s.tm s.h = some av ∧ LI h s.h av (formL d) := by
    dsimp only [of24]
    simp only [WK_skip, WK_seq, WX_seq, WX_seq_exit, WX_seq_ret, WK_block, WX_block, WX_block_ret, WX_block_eq, WK_exit, WK_ret, WK_scope, WK_cond, WK_ops, WK_draw, WX_loop, WX_loop_exit, WX_loop_ret, WX_nil, WB_true, WB_false, WOs_nil, WDs_nil, WV_some, WA_some, WE_some, WDV_zero, WDE_none, putD_some, putD_none, WOs_g, WG_tt, WG_ff, WG_tf, WG_ft, WG_un, WOs_mov, WOs_bin, WOs_un, WOs_pick, WOs_toInt, WOs_len, WOs_load, WOs_iaddr, WOs_extr, WOs_call, WOs_store, WOs_append, WOs_slice, WOs_mx, WOs_mn, WOs_build, WOs_bslice, WOs_alloc, WDs_mov, WDs_bin, WDs_call, evalQ_mov, evalQ_bin, evalQ_un, evalQ_pick, evalQ_toInt, evalQ_len, evalQ_load, evalQ_iaddr, evalQ_extr, evalQ_mx, evalQ_mn, evalE_fn, evalE_append, evs_cons, evs_nil, ev_tmp, ev_lit, nth_zero, nth_succ, put_zero, put_succ, pickV_tt, pickV_ff, extrV_0, extrV_1, extrV_2]
    refine rfO_loop d1 d2 60 1 [] h .nils _ _ _ _ _ _ rfl (by decide) (LI.nil h) (by decide) ?_
    intro h' out' z1 z2 z3 z4 z6 z7 z8 H
    simp only [WK_skip, WK_seq, WX_seq, WX_seq_exit, WX_seq_ret, WK_block, WX_block, WX_block_ret, WX_block_eq, WK_exit, WK_ret, WK_scope, WK_cond, WK_ops, WK_draw, WX_loop, WX_loop_exit, WX_loop_ret, WX_nil, WB_true, WB_false, WOs_nil, WDs_nil, WV_some, WA_some, WE_some, WDV_zero, WDE_none, putD_some, putD_none, WOs_g, WG_tt, WG_ff, WG_tf, WG_ft, WG_un, WOs_mov, WOs_bin, WOs_un, WOs_pick, WOs_toInt, WOs_len, WOs_load, WOs_iaddr, WOs_extr, WOs_call, WOs_store, WOs_append, WOs_slice, WOs_mx, WOs_mn, WOs_build, WOs_bslice, WOs_alloc, WDs_mov, WDs_bin, WDs_call, evalQ_mov, evalQ_bin, evalQ_un, evalQ_pick, evalQ_toInt, evalQ_len, evalQ_load, evalQ_iaddr, evalQ_extr, evalQ_mx, evalQ_mn, evalE_fn, evalE_append, evs_cons, evs_nil, ev_tmp, ev_lit, nth_zero, nth_succ, put_zero, put_succ, pickV_tt, pickV_ff, extrV_0, extrV_1, extrV_2]
    exact ⟨(fun i hi => by cases hi), out', rfl, H⟩
  obtain ⟨b, h', e, H⟩ := lim_walk_ex (T := otab.get) (I := L8) (a := [.int .i64 d]) (h := h) (P := fun v h' => LI h h' v (formL d)) (f := 24) (fn := of24) rfl rfl key
  exact ⟨b, h', e, H⟩
/-- the program's list -/
theorem forms_ok {d : Int} (d1 : -10000 ≤ d) (d2 : d < 0) (hf : fundP d) : ∃ b h', lim otab.get L8 (.fn 22) [.int .i64 d] h = some (.tup [b, .int .i64 0], h') ∧ LI h h' b (formL d) := by
  have e0 : lg d = 0 := by rcases lg_cases d with h | h <;> omega
  have key : WK (lim otab.get L8) of22.body [] ⟨[.int .i64 d, aundef, aundef, aundef, aundef, aundef, aundef, aundef, aundef], h⟩ fun x s => (∀ i, x ≠ .exit i) ∧ ∃ av, result of22.res s.tm s.h = some av ∧ ∃ b, av = .tup [b, .int .i64 0] ∧ LI h s.h b (formL d) := by
    dsimp only [of22]
    have t1 : ¬ (0 : Int) ≤ d := by omega
    have t2 : ¬ d < -10000 := by omega
    simp only [WK_skip, WK_seq, WX_seq, WX_seq_exit, WX_seq_ret, WK_block, WX_block, WX_block_ret, WX_block_eq, WK_exit, WK_ret, WK_scope, WK_cond, WK_ops, WK_draw, WX_loop, WX_loop_exit, WX_loop_ret, WX_nil, WB_true, WB_false, WOs_nil, WDs_nil, WV_some, WA_some, WE_some, WDV_zero, WDE_none, putD_some, putD_none, WOs_g, WG_tt, WG_ff, WG_tf, WG_ft, WG_un, WOs_mov, WOs_bin, WOs_un, WOs_pick, WOs_toInt, WOs_len, WOs_load, WOs_iaddr, WOs_extr, WOs_call, WOs_store, WOs_append, WOs_slice, WOs_mx, WOs_mn, WOs_build, WOs_bslice, WOs_alloc, WDs_mov, WDs_bin, WDs_call, evalQ_mov, evalQ_bin, evalQ_un, evalQ_pick, evalQ_toInt, evalQ_len, evalQ_load, evalQ_iaddr, evalQ_extr, evalQ_mx, evalQ_mn, evalE_fn, evalE_append, evs_cons, evs_nil, ev_tmp, ev_lit, nth_zero, nth_succ, put_zero, put_succ, pickV_tt, pickV_ff, extrV_0, extrV_1, extrV_2]
    rw [bslice1 rfl rfl]
    simp only [WK_skip, WK_seq, WX_seq, WX_seq_exit, WX_seq_ret, WK_block, WX_block, WX_block_ret, WX_block_eq, WK_exit, WK_ret, WK_scope, WK_cond, WK_ops, WK_draw, WX_loop, WX_loop_exit, WX_loop_ret, WX_nil, WB_true, WB_false, WOs_nil, WDs_nil, WV_some, WA_some, WE_some, WDV_zero, WDE_none, putD_some, putD_none, WOs_g, WG_tt, WG_ff, WG_tf, WG_ft, WG_un, WOs_mov, WOs_bin, WOs_un, WOs_pick, WOs_toInt, WOs_len, WOs_load, WOs_iaddr, WOs_extr, WOs_call, WOs_store, WOs_append, WOs_slice, WOs_mx, WOs_mn, WOs_build, WOs_bslice, WOs_alloc, WDs_mov, WDs_bin, WDs_call, evalQ_mov, evalQ_bin, evalQ_un, evalQ_pick, evalQ_toInt, evalQ_len, evalQ_load, evalQ_iaddr, evalQ_extr, evalQ_mx, evalQ_mn, evalE_fn, evalE_append, evs_cons, evs_nil, ev_tmp, ev_lit, nth_zero, nth_succ, put_zero, put_succ, pickV_tt, pickV_ff, extrV_0, extrV_1, extrV_2, bounded_1 (I := L8) (fun _ _ => rfl), e0, eql_int, decide_true, geq_int, t1, decide_false, lss_int, t2, c_fund_8 (d := d) (by omega) (by omega), hf, not_bool, Bool.not_true, neq_int, show decide ((0 : Int) ≠ 0) = false from rfl]
    refine pfO_loop d1 d2 60 1 [] _ .nils _ _ _ _ _ _ rfl (by decide) (LI.nil _) (by decide) ?_
    intro h' out' z1 z2 z3 z4 z6 z7 z8 H
    obtain ⟨h2, es, H2⟩ := H.sort ((formL_pw d1 d2).srt formL_len)
    simp only [WK_skip, WK_seq, WX_seq, WX_seq_exit, WX_seq_ret, WK_block, WX_block, WX_block_ret, WX_block_eq, WK_exit, WK_ret, WK_scope, WK_cond, WK_ops, WK_draw, WX_loop, WX_loop_exit, WX_loop_ret, WX_nil, WB_true, WB_false, WOs_nil, WDs_nil, WV_some, WA_some, WE_some, WDV_zero, WDE_none, putD_some, putD_none, WOs_g, WG_tt, WG_ff, WG_tf, WG_ft, WG_un, WOs_mov, WOs_bin, WOs_un, WOs_pick, WOs_toInt, WOs_len, WOs_load, WOs_iaddr, WOs_extr, WOs_call, WOs_store, WOs_append, WOs_slice, WOs_mx, WOs_mn, WOs_build, WOs_bslice, WOs_alloc, WDs_mov, WDs_bin, WDs_call, evalQ_mov, evalQ_bin, evalQ_un, evalQ_pick, evalQ_toInt, evalQ_len, evalQ_load, evalQ_iaddr, evalQ_extr, evalQ_mx, evalQ_mn, evalE_fn, evalE_append, evs_cons, evs_nil, ev_tmp, ev_lit, nth_zero, nth_succ, put_zero, put_succ, pickV_tt, pickV_ff, extrV_0, extrV_1, extrV_2, es]
    refine ⟨(fun i hi => by cases hi), _, rfl, out', rfl, ?_⟩
    have hle := H2.le
    rw [AHeap.next_push] at hle
    refine ⟨by omega, fun j hj => ?_, ?_⟩
    · rw [H2.same j (by rw [AHeap.next_push]; omega), AHeap.get_push_lt _ _ hj]
    · rcases H2.val with e | ⟨i, e1, e2, e3, e4, e5⟩
      · exact .inl e
      · rw [AHeap.next_push] at e3
        exact .inr ⟨i, e1, e2, by omega, e4, e5⟩
  obtain ⟨v, h', e, b, rfl, H⟩ := lim_walk_ex (T := otab.get) (I := L8) (a := [.int .i64 d]) (h := h) (P := fun v h' => ∃ b, v = .tup [b, .int .i64 0] ∧ LI h h' b (formL d)) (f := 22) (fn := of22) rfl rfl key
  exact ⟨b, h', e, H⟩
end
end Go.AM
