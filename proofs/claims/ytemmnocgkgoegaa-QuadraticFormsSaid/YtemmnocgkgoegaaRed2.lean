/- Forms: discriminant, tests, the rounded quotient: what the code computes. No condition. -/
import Derived.Test.YtemmnocgkgoegaaRed
import Derived.Test.YtemmnocgkgoegaaQ4
set_option maxRecDepth 100000
set_option linter.unusedSimpArgs false
namespace Go.AM
open Go
theorem evalA_box {x : AOpd} {tm : List AV} {h : AHeap} : evalA (.box x) tm h = some (.cells (ev tm x).cells true, .ptr h.next 0) := rfl
theorem evalA_alloc {z : List AV} {tm : List AV} {h : AHeap} : evalA (.alloc z) tm h = some (.cells z true, .ptr h.next 0) := rfl
def faddrV (k : Nat) (x : AV) : Option AV := match x with | .ptr i o => some (.ptr i (o + k)) | _ => none
theorem evalQ_faddr {k : Nat} {x : AOpd} {tm : List AV} {h : AHeap} : evalQ (.faddr k x) tm h = faddrV k (ev tm x) := rfl
theorem faddrV_0 {i : Nat} : faddrV 0 (.ptr i 0) = some (.ptr i 0) := rfl
theorem faddrV_1 {i : Nat} : faddrV 1 (.ptr i 0) = some (.ptr i 1) := rfl
theorem faddrV_2 {i : Nat} : faddrV 2 (.ptr i 0) = some (.ptr i 2) := rfl
theorem cells_agg {l : List AV} : AV.cells (.agg l) = l := rfl
section
variable {h : AHeap} {i : Nat} {a b c : AV} {r : Bool}
theorem ld0 (hg : h.get i = some (.cells [a, b, c] r)) : loadV none (.ptr i 0) h = some a := loadV_at (cellsOf_get hg) rfl
theorem ld1 (hg : h.get i = some (.cells [a, b, c] r)) : loadV none (.ptr i 1) h = some b := loadV_at (cellsOf_get hg) rfl
theorem ld2 (hg : h.get i = some (.cells [a, b, c] r)) : loadV none (.ptr i 2) h = some c := loadV_at (cellsOf_get hg) rfl
theorem ldS (hg : h.get i = some (.cells [a, b, c] r)) : loadV (some 3) (.ptr i 0) h = some (.agg [a, b, c]) := by
  show (match cellsOf h i with | some c => fit (some 3) 0 c | none => none) = _
  rw [cellsOf_get hg]
  show (match cut [a, b, c] 0 3 with | some r => some (AV.agg r) | none => none) = _
  have : cut [a, b, c] 0 3 = some [a, b, c] := cut_all [a, b, c]
  rw [this]
end
/-- the value of a store -/
noncomputable def stV (n : Nat) (a x : AV) (h : AHeap) : Option (AV × AHeap) := evalE (.store n (.lit a) (.lit x)) (fun _ _ _ => none) [] h
theorem evalE_store {C : CallT} {n : Nat} {a x : AOpd} {tm : List AV} {h : AHeap} : evalE (.store n a x) C tm h = stV n (ev tm a) (ev tm x) h := rfl
theorem stV3 {h : AHeap} {i : Nat} {a b c x y z : AV} (hg : h.get i = some (.cells [a, b, c] true)) (hx : x.scalar = true) (hy : y.scalar = true) (hz : z.scalar = true) : stV 3 (.ptr i 0) (.agg [x, y, z]) h = some (aundef, h.set i (.cells [x, y, z] true)) := by
  have ho : ownOf h i = some [a, b, c] := by unfold ownOf; rw [hg]
  have hl : lay [a, b, c] 0 [x, y, z] = some [x, y, z] := by rw [lay_cons, lay_cons, lay_cons, lay_zero]
  unfold stV
  simp only [evalE, ev_lit, ho]
  show (if ([x, y, z] : List AV).length = 3 ∧ ([x, y, z] : List AV).all AV.scalar = true then (match lay [a, b, c] 0 [x, y, z] with | some c' => some (aundef, h.set i (.cells c' true)) | none => none) else none) = _
  rw [if_pos ⟨rfl, by simp [hx, hy, hz]⟩, hl]
section
variable {h : AHeap} {i : Nat} {a b c x : AV} (hg : h.get i = some (.cells [a, b, c] true)) (hx : x.scalar = true)
include hg hx
theorem stV10 : stV 1 (.ptr i 0) x h = some (aundef, h.set i (.cells [x, b, c] true)) := by
  have hc : x.cells = [x] := by cases x <;> simp_all [AV.cells, AV.scalar]
  have ho : ownOf h i = some [a, b, c] := by unfold ownOf; rw [hg]
  have hl : lay [a, b, c] 0 [x] = some [x, b, c] := by rw [lay_cons, lay_zero]
  unfold stV
  simp only [evalE, ev_lit, ho, hc]
  rw [if_pos ⟨rfl, by simp [hx]⟩, hl]
theorem stV11 : stV 1 (.ptr i 1) x h = some (aundef, h.set i (.cells [a, x, c] true)) := by
  have hc : x.cells = [x] := by cases x <;> simp_all [AV.cells, AV.scalar]
  have ho : ownOf h i = some [a, b, c] := by unfold ownOf; rw [hg]
  have hl : lay [a, b, c] 1 [x] = some [a, x, c] := by rw [lay_succ, lay_cons, lay_zero]
  unfold stV
  simp only [evalE, ev_lit, ho, hc]
  rw [if_pos ⟨rfl, by simp [hx]⟩, hl]
theorem stV12 : stV 1 (.ptr i 2) x h = some (aundef, h.set i (.cells [a, b, x] true)) := by
  have hc : x.cells = [x] := by cases x <;> simp_all [AV.cells, AV.scalar]
  have ho : ownOf h i = some [a, b, c] := by unfold ownOf; rw [hg]
  have hl : lay [a, b, c] 2 [x] = some [a, b, x] := by rw [lay_succ, lay_succ, lay_cons, lay_zero]
  unfold stV
  simp only [evalE, ev_lit, ho, hc]
  rw [if_pos ⟨rfl, by simp [hx]⟩, hl]
end
theorem result_cell {a : Nat} {tm : List AV} {h : AHeap} {v : AV} (hl : loadV (some 3) (nth tm a) h = some v) : result [.cell a (some 3)] tm h = some v := by
  have e : resOf tm h (.cell a (some 3)) = some v := hl
  simp only [result, resOfs, e]
/-- a form as a value -/
abbrev fV (A B C : Int) : AV := .agg [.int .i64 A, .int .i64 B, .int .i64 C]
abbrev fC (A B C : Int) : List AV := [.int .i64 A, .int .i64 B, .int .i64 C]
theorem mul_le_abs {x y X Y : Int} (h1 : -X ≤ x) (h2 : x ≤ X) (h3 : -Y ≤ y) (h4 : y ≤ Y) : -(X * Y) ≤ x * y ∧ x * y ≤ X * Y := by
  have h : x.natAbs * y.natAbs ≤ X.toNat * Y.toNat := Nat.mul_le_mul (by omega) (by omega)
  have e1 : ((x * y).natAbs : Int) = ((x.natAbs * y.natAbs : Nat) : Int) := by rw [Int.natAbs_mul]
  have e2 : X * Y = ((X.toNat * Y.toNat : Nat) : Int) := by rw [Int.natCast_mul, Int.toNat_of_nonneg (by omega), Int.toNat_of_nonneg (by omega)]
  omega
def lim5 (x : Int) : Prop := -100000 ≤ x ∧ x ≤ 100000
instance (x : Int) : Decidable (lim5 x) := by unfold lim5; infer_instance

def limC (x : Int) : Prop := -12500000000 ≤ x ∧ x ≤ 12500000000
instance (x : Int) : Decidable (limC x) := by unfold limC; infer_instance
theorem lim5.C {x : Int} (h : lim5 x) : limC x := by unfold lim5 at h; unfold limC; omega
/-- Disc -/
def discS : List AV → Option AV
  | [.agg [.int .i64 A, .int .i64 B, .int .i64 C]] => if lim5 A ∧ lim5 B ∧ limC C then some (.int .i64 (B * B - 4 * A * C)) else none
  | _ => none
theorem disc_run {A B C : Int} (ha : lim5 A) (hb : lim5 B) (hc : limC C) : ∃ h', lim otab.get I12 (.fn 34) [fV A B C] .empty = some (.int .i64 (B * B - 4 * A * C), h') := by
  refine run_of (fn := of34) rfl rfl ?_
  show WK _ _ [] ⟨[fV A B C, aundef, aundef], .empty⟩ _
  dsimp only [of34]
  have h1 := mul_le_abs hb.1 hb.2 hb.1 hb.2
  have h2 := mul_le_abs (x := 4 * A) (y := C) (X := 400000) (Y := 12500000000) (by have := ha.1; omega) (by have := ha.2; omega) hc.1 hc.2
  have ha1 := ha.1
  have ha2 := ha.2
  have g0 : (AHeap.empty.push (.cells (fC A B C) true)).get 0 = some (.cells (fC A B C) true) := AHeap.get_push_same AHeap.empty _
  simp (disch := omega) only [WK_skip, WK_seq, WX_seq, WX_seq_exit, WX_seq_ret, WK_block, WX_block, WX_block_ret, WX_block_eq, WK_exit, WK_ret, WK_scope, WK_cond, WK_ops, WK_draw, WX_loop, WX_loop_exit, WX_loop_ret, WX_nil, WB_true, WB_false, WOs_nil, WDs_nil, WV_some, WA_some, WE_some, WDV_zero, WDE_none, putD_some, putD_none, WOs_g, WG_tt, WG_ff, WG_tf, WG_ft, WG_un, WOs_mov, WOs_bin, WOs_un, WOs_pick, WOs_toInt, WOs_len, WOs_load, WOs_iaddr, WOs_indexS, WOs_extr, WOs_field, WOs_toStr, WOs_call, WOs_store, WOs_append, WOs_slice, WOs_mx, WOs_mn, WOs_build, WOs_bslice, WOs_mkslice, WOs_alloc, WOs_lenA, WDs_mov, WDs_bin, WDs_call, evalQ_mov, evalQ_bin, evalQ_un, evalQ_pick, evalQ_toInt, evalQ_len, evalQ_load, evalQ_iaddr, evalQ_indexS, evalQ_extr, evalQ_field, evalQ_mx, evalQ_mn, evalQ_lenA, evalE_fn, evalE_append, evs_cons, evs_nil, ev_tmp, ev_lit, nth_zero, nth_succ, put_zero, put_succ, pickV_tt, pickV_ff, extrV_0, extrV_1, extrV_2, WOs_box, evalA_box, cells_agg, WOs_faddr, evalQ_faddr, faddrV_0, faddrV_1, faddrV_2, ld0 g0, ld1 g0, ld2 g0, mul_i64, sub_i64, Ret_ret, result_1]
noncomputable def K1 : Oracle := ext I12 34 discS
theorem K1_ok : IOK Go.Proofs.Try.prog K1 := IOK.extL mixed tabOK otabOK I12_ok (g := 34) (fn := af34) rfl fun args av h => by
  unfold discS at h
  split at h
  · split at h
    · rename_i hn; cases h; exact ⟨rfl, rfl, disc_run hn.1 hn.2.1 hn.2.2⟩
    · cases h
  · cases h
def posS : List AV → Option AV
  | [.agg [.int .i64 A, .int .i64 B, .int .i64 C]] => if lim5 A ∧ lim5 B ∧ lim5 C then some (.bool (decide (B * B - 4 * A * C < 0 ∧ 0 < A))) else none
  | _ => none
theorem pos_run {A B C : Int} (ha : lim5 A) (hb : lim5 B) (hc : lim5 C) : ∃ h', lim otab.get K1 (.fn 26) [fV A B C] .empty = some (.bool (decide (B * B - 4 * A * C < 0 ∧ 0 < A)), h') := by
  refine run_of (fn := of26) rfl rfl ?_
  show WK _ _ [] ⟨[fV A B C, aundef], .empty⟩ _
  dsimp only [of26]
  have g0 : (AHeap.empty.push (.cells (fC A B C) true)).get 0 = some (.cells (fC A B C) true) := AHeap.get_push_same AHeap.empty _
  have cd : ∀ h, lim otab.get K1 (.fn 34) [fV A B C] h = some (.int .i64 (B * B - 4 * A * C), h) := fun h => lim_oracle (or_hit (spec := discS) (if_pos ⟨ha, hb, hc.C⟩))
  by_cases e1 : B * B - 4 * A * C < 0
  · simp only [WK_skip, WK_seq, WX_seq, WX_seq_exit, WX_seq_ret, WK_block, WX_block, WX_block_ret, WX_block_eq, WK_exit, WK_ret, WK_scope, WK_cond, WK_ops, WK_draw, WX_loop, WX_loop_exit, WX_loop_ret, WX_nil, WB_true, WB_false, WOs_nil, WDs_nil, WV_some, WA_some, WE_some, WDV_zero, WDE_none, putD_some, putD_none, WOs_g, WG_tt, WG_ff, WG_tf, WG_ft, WG_un, WOs_mov, WOs_bin, WOs_un, WOs_pick, WOs_toInt, WOs_len, WOs_load, WOs_iaddr, WOs_indexS, WOs_extr, WOs_field, WOs_toStr, WOs_call, WOs_store, WOs_append, WOs_slice, WOs_mx, WOs_mn, WOs_build, WOs_bslice, WOs_mkslice, WOs_alloc, WOs_lenA, WDs_mov, WDs_bin, WDs_call, evalQ_mov, evalQ_bin, evalQ_un, evalQ_pick, evalQ_toInt, evalQ_len, evalQ_load, evalQ_iaddr, evalQ_indexS, evalQ_extr, evalQ_field, evalQ_mx, evalQ_mn, evalQ_lenA, evalE_fn, evalE_append, evs_cons, evs_nil, ev_tmp, ev_lit, nth_zero, nth_succ, put_zero, put_succ, pickV_tt, pickV_ff, extrV_0, extrV_1, extrV_2, WOs_box, evalA_box, cells_agg, WOs_faddr, evalQ_faddr, faddrV_0, ld0 g0, ldS g0, cd, lss_int, gtr_int, e1, decide_true, true_and, Ret_ret, result_1]
  · simp only [WK_skip, WK_seq, WX_seq, WX_seq_exit, WX_seq_ret, WK_block, WX_block, WX_block_ret, WX_block_eq, WK_exit, WK_ret, WK_scope, WK_cond, WK_ops, WK_draw, WX_loop, WX_loop_exit, WX_loop_ret, WX_nil, WB_true, WB_false, WOs_nil, WDs_nil, WV_some, WA_some, WE_some, WDV_zero, WDE_none, putD_some, putD_none, WOs_g, WG_tt, WG_ff, WG_tf, WG_ft, WG_un, WOs_mov, WOs_bin, WOs_un, WOs_pick, WOs_toInt, WOs_len, WOs_load, WOs_iaddr, WOs_indexS, WOs_extr, WOs_field, WOs_toStr, WOs_call, WOs_store, WOs_append, WOs_slice, WOs_mx, WOs_mn, WOs_build, WOs_bslice, WOs_mkslice, WOs_alloc, WOs_lenA, WDs_mov, WDs_bin, WDs_call, evalQ_mov, evalQ_bin, evalQ_un, evalQ_pick, evalQ_toInt, evalQ_len, evalQ_load, evalQ_iaddr, evalQ_indexS, evalQ_extr, evalQ_field, evalQ_mx, evalQ_mn, evalQ_lenA, evalE_fn, evalE_append, evs_cons, evs_nil, ev_tmp, ev_lit, nth_zero, nth_succ, put_zero, put_succ, pickV_tt, pickV_ff, extrV_0, extrV_1, extrV_2, WOs_box, evalA_box, cells_agg, WOs_faddr, evalQ_faddr, faddrV_0, ld0 g0, ldS g0, cd, lss_int, gtr_int, e1, decide_false, false_and, Ret_ret, result_1]
noncomputable def K2 : Oracle := ext K1 26 posS
theorem K2_ok : IOK Go.Proofs.Try.prog K2 := IOK.extL mixed tabOK otabOK K1_ok (g := 26) (fn := af26) rfl fun args av h => by
  unfold posS at h
  split at h
  · split at h
    · rename_i hn; cases h; exact ⟨rfl, rfl, pos_run hn.1 hn.2.1 hn.2.2⟩
    · cases h
  · cases h
def isRedS : List AV → Option AV
  | [.agg [.int .i64 A, .int .i64 B, .int .i64 C]] => if small A ∧ small B ∧ small C then some (.bool (decide (isRed (A, B, C)))) else none
  | _ => none
theorem isRed_run {A B C : Int} (hb : small B) : ∃ h', lim otab.get K2 (.fn 33) [fV A B C] .empty = some (.bool (decide (isRed (A, B, C))), h') := by
  refine run_of (fn := of33) rfl rfl ?_
  show WK _ _ [] ⟨[fV A B C, aundef, aundef, aundef, aundef], .empty⟩ _
  dsimp only [of33]
  have g0 : (AHeap.empty.push (.cells (fC A B C) true)).get 0 = some (.cells (fC A B C) true) := AHeap.get_push_same AHeap.empty _
  have cb : ∀ h, lim otab.get K2 (.fn 44) [.int .i64 B] h = some (.int .i64 (B.natAbs : Int), h) := fun h => lim_oracle (or_hit (spec := absS) (if_pos hb))
  by_cases e1 : (B.natAbs : Int) ≤ A
  · by_cases e2 : A ≤ C
    · by_cases e3 : 0 ≤ B
      · have : isRed (A, B, C) := ⟨e1, e2, .inl e3⟩
        simp only [WK_skip, WK_seq, WX_seq, WX_seq_exit, WX_seq_ret, WK_block, WX_block, WX_block_ret, WX_block_eq, WK_exit, WK_ret, WK_scope, WK_cond, WK_ops, WK_draw, WX_loop, WX_loop_exit, WX_loop_ret, WX_nil, WB_true, WB_false, WOs_nil, WDs_nil, WV_some, WA_some, WE_some, WDV_zero, WDE_none, putD_some, putD_none, WOs_g, WG_tt, WG_ff, WG_tf, WG_ft, WG_un, WOs_mov, WOs_bin, WOs_un, WOs_pick, WOs_toInt, WOs_len, WOs_load, WOs_iaddr, WOs_indexS, WOs_extr, WOs_field, WOs_toStr, WOs_call, WOs_store, WOs_append, WOs_slice, WOs_mx, WOs_mn, WOs_build, WOs_bslice, WOs_mkslice, WOs_alloc, WOs_lenA, WDs_mov, WDs_bin, WDs_call, evalQ_mov, evalQ_bin, evalQ_un, evalQ_pick, evalQ_toInt, evalQ_len, evalQ_load, evalQ_iaddr, evalQ_indexS, evalQ_extr, evalQ_field, evalQ_mx, evalQ_mn, evalQ_lenA, evalE_fn, evalE_append, evs_cons, evs_nil, ev_tmp, ev_lit, nth_zero, nth_succ, put_zero, put_succ, pickV_tt, pickV_ff, extrV_0, extrV_1, extrV_2, WOs_box, evalA_box, cells_agg, WOs_faddr, evalQ_faddr, faddrV_0, faddrV_1, faddrV_2, ld0 g0, ld1 g0, ld2 g0, cb, leq_int, geq_int, neq_int, e1, e2, e3, decide_true, Ret_ret, result_1, this]
      · by_cases e4 : (B.natAbs : Int) ≠ A
        · have e4t : ((B.natAbs : Int) ≠ A) = True := eq_true e4
          have : isRed (A, B, C) ↔ A ≠ C := by unfold isRed; dsimp only; omega
          simp only [WK_skip, WK_seq, WX_seq, WX_seq_exit, WX_seq_ret, WK_block, WX_block, WX_block_ret, WX_block_eq, WK_exit, WK_ret, WK_scope, WK_cond, WK_ops, WK_draw, WX_loop, WX_loop_exit, WX_loop_ret, WX_nil, WB_true, WB_false, WOs_nil, WDs_nil, WV_some, WA_some, WE_some, WDV_zero, WDE_none, putD_some, putD_none, WOs_g, WG_tt, WG_ff, WG_tf, WG_ft, WG_un, WOs_mov, WOs_bin, WOs_un, WOs_pick, WOs_toInt, WOs_len, WOs_load, WOs_iaddr, WOs_indexS, WOs_extr, WOs_field, WOs_toStr, WOs_call, WOs_store, WOs_append, WOs_slice, WOs_mx, WOs_mn, WOs_build, WOs_bslice, WOs_mkslice, WOs_alloc, WOs_lenA, WDs_mov, WDs_bin, WDs_call, evalQ_mov, evalQ_bin, evalQ_un, evalQ_pick, evalQ_toInt, evalQ_len, evalQ_load, evalQ_iaddr, evalQ_indexS, evalQ_extr, evalQ_field, evalQ_mx, evalQ_mn, evalQ_lenA, evalE_fn, evalE_append, evs_cons, evs_nil, ev_tmp, ev_lit, nth_zero, nth_succ, put_zero, put_succ, pickV_tt, pickV_ff, extrV_0, extrV_1, extrV_2, WOs_box, evalA_box, cells_agg, WOs_faddr, evalQ_faddr, faddrV_0, faddrV_1, faddrV_2, ld0 g0, ld1 g0, ld2 g0, cb, leq_int, geq_int, neq_int, e1, e2, e3, e4t, decide_true, decide_false, Ret_ret, result_1, decide_eq_decide.2 this]
        · have : ¬ isRed (A, B, C) := by unfold isRed; dsimp only; omega
          simp only [WK_skip, WK_seq, WX_seq, WX_seq_exit, WX_seq_ret, WK_block, WX_block, WX_block_ret, WX_block_eq, WK_exit, WK_ret, WK_scope, WK_cond, WK_ops, WK_draw, WX_loop, WX_loop_exit, WX_loop_ret, WX_nil, WB_true, WB_false, WOs_nil, WDs_nil, WV_some, WA_some, WE_some, WDV_zero, WDE_none, putD_some, putD_none, WOs_g, WG_tt, WG_ff, WG_tf, WG_ft, WG_un, WOs_mov, WOs_bin, WOs_un, WOs_pick, WOs_toInt, WOs_len, WOs_load, WOs_iaddr, WOs_indexS, WOs_extr, WOs_field, WOs_toStr, WOs_call, WOs_store, WOs_append, WOs_slice, WOs_mx, WOs_mn, WOs_build, WOs_bslice, WOs_mkslice, WOs_alloc, WOs_lenA, WDs_mov, WDs_bin, WDs_call, evalQ_mov, evalQ_bin, evalQ_un, evalQ_pick, evalQ_toInt, evalQ_len, evalQ_load, evalQ_iaddr, evalQ_indexS, evalQ_extr, evalQ_field, evalQ_mx, evalQ_mn, evalQ_lenA, evalE_fn, evalE_append, evs_cons, evs_nil, ev_tmp, ev_lit, nth_zero, nth_succ, put_zero, put_succ, pickV_tt, pickV_ff, extrV_0, extrV_1, extrV_2, WOs_box, evalA_box, cells_agg, WOs_faddr, evalQ_faddr, faddrV_0, faddrV_1, faddrV_2, ld0 g0, ld1 g0, ld2 g0, cb, leq_int, geq_int, neq_int, e1, e2, e3, e4, decide_true, decide_false, Ret_ret, result_1, this]
    · have : ¬ isRed (A, B, C) := fun h => e2 h.2.1
      simp only [WK_skip, WK_seq, WX_seq, WX_seq_exit, WX_seq_ret, WK_block, WX_block, WX_block_ret, WX_block_eq, WK_exit, WK_ret, WK_scope, WK_cond, WK_ops, WK_draw, WX_loop, WX_loop_exit, WX_loop_ret, WX_nil, WB_true, WB_false, WOs_nil, WDs_nil, WV_some, WA_some, WE_some, WDV_zero, WDE_none, putD_some, putD_none, WOs_g, WG_tt, WG_ff, WG_tf, WG_ft, WG_un, WOs_mov, WOs_bin, WOs_un, WOs_pick, WOs_toInt, WOs_len, WOs_load, WOs_iaddr, WOs_indexS, WOs_extr, WOs_field, WOs_toStr, WOs_call, WOs_store, WOs_append, WOs_slice, WOs_mx, WOs_mn, WOs_build, WOs_bslice, WOs_mkslice, WOs_alloc, WOs_lenA, WDs_mov, WDs_bin, WDs_call, evalQ_mov, evalQ_bin, evalQ_un, evalQ_pick, evalQ_toInt, evalQ_len, evalQ_load, evalQ_iaddr, evalQ_indexS, evalQ_extr, evalQ_field, evalQ_mx, evalQ_mn, evalQ_lenA, evalE_fn, evalE_append, evs_cons, evs_nil, ev_tmp, ev_lit, nth_zero, nth_succ, put_zero, put_succ, pickV_tt, pickV_ff, extrV_0, extrV_1, extrV_2, WOs_box, evalA_box, cells_agg, WOs_faddr, evalQ_faddr, faddrV_0, faddrV_1, faddrV_2, ld0 g0, ld1 g0, ld2 g0, cb, leq_int, geq_int, neq_int, e1, e2, decide_true, decide_false, Ret_ret, result_1, this]
  · have : ¬ isRed (A, B, C) := fun h => e1 h.1
    simp only [WK_skip, WK_seq, WX_seq, WX_seq_exit, WX_seq_ret, WK_block, WX_block, WX_block_ret, WX_block_eq, WK_exit, WK_ret, WK_scope, WK_cond, WK_ops, WK_draw, WX_loop, WX_loop_exit, WX_loop_ret, WX_nil, WB_true, WB_false, WOs_nil, WDs_nil, WV_some, WA_some, WE_some, WDV_zero, WDE_none, putD_some, putD_none, WOs_g, WG_tt, WG_ff, WG_tf, WG_ft, WG_un, WOs_mov, WOs_bin, WOs_un, WOs_pick, WOs_toInt, WOs_len, WOs_load, WOs_iaddr, WOs_indexS, WOs_extr, WOs_field, WOs_toStr, WOs_call, WOs_store, WOs_append, WOs_slice, WOs_mx, WOs_mn, WOs_build, WOs_bslice, WOs_mkslice, WOs_alloc, WOs_lenA, WDs_mov, WDs_bin, WDs_call, evalQ_mov, evalQ_bin, evalQ_un, evalQ_pick, evalQ_toInt, evalQ_len, evalQ_load, evalQ_iaddr, evalQ_indexS, evalQ_extr, evalQ_field, evalQ_mx, evalQ_mn, evalQ_lenA, evalE_fn, evalE_append, evs_cons, evs_nil, ev_tmp, ev_lit, nth_zero, nth_succ, put_zero, put_succ, pickV_tt, pickV_ff, extrV_0, extrV_1, extrV_2, WOs_box, evalA_box, cells_agg, WOs_faddr, evalQ_faddr, faddrV_0, faddrV_1, faddrV_2, ld0 g0, ld1 g0, ld2 g0, cb, leq_int, geq_int, neq_int, e1, decide_false, Ret_ret, result_1, this]
noncomputable def K3 : Oracle := ext K2 33 isRedS
theorem K3_ok : IOK Go.Proofs.Try.prog K3 := IOK.extL mixed tabOK otabOK K2_ok (g := 33) (fn := af33) rfl fun args av h => by
  unfold isRedS at h
  split at h
  · split at h
    · rename_i hn; cases h; exact ⟨rfl, rfl, isRed_run hn.2.1⟩
    · cases h
  · cases h
def floorS : List AV → Option AV
  | [.int .i64 a, .int .i64 b] => if small a ∧ 0 < b ∧ b ≤ 4611686018427387904 then some (.int .i64 (a / b)) else none
  | _ => none
theorem floor_run {a b : Int} (ha : small a) (hb : 0 < b) (hb2 : b ≤ 4611686018427387904) : ∃ h', lim otab.get K3 (.fn 60) [.int .i64 a, .int .i64 b] .empty = some (.int .i64 (a / b), h') := by
  refine run_of (fn := of60) rfl rfl ?_
  show WK _ _ [] ⟨[.int .i64 a, .int .i64 b, aundef], .empty⟩ _
  dsimp only [of60]
  have cm : ∀ h, lim otab.get K3 (.fn 36) [.int .i64 a, .int .i64 b] h = some (.int .i64 (a % b), h) := fun h => lim_oracle (or_hit (spec := modS) (if_pos ⟨hb, hb2⟩))
  have h1 := Int.emod_nonneg a (show b ≠ 0 by omega)
  have h2 := Int.emod_lt_of_pos a hb
  have h3 : a - a % b = b * (a / b) := by have := Int.emod_add_mul_ediv a b; omega
  have h4 : (a - a % b).tdiv b = a / b := by rw [h3, Int.mul_tdiv_cancel_left _ (by omega)]
  have ha1 := ha.1
  have ha2 := ha.2
  have h5 : -4611686018427387904 ≤ a / b := by
    have := Int.le_ediv_of_mul_le (a := -4611686018427387904) (b := a) (c := b) hb (by
      have : (1 : Int) * 4611686018427387904 ≤ b * 4611686018427387904 := Int.mul_le_mul_of_nonneg_right (by omega) (by omega)
      omega)
    exact this
  have h6 : a / b ≤ 4611686018427387904 := by
    rcases Int.lt_or_le a 0 with e | e
    · have := Int.ediv_neg_of_neg_of_pos e hb; omega
    · have := Int.ediv_le_self b e; omega
  simp (disch := omega) only [WK_skip, WK_seq, WX_seq, WX_seq_exit, WX_seq_ret, WK_block, WX_block, WX_block_ret, WX_block_eq, WK_exit, WK_ret, WK_scope, WK_cond, WK_ops, WK_draw, WX_loop, WX_loop_exit, WX_loop_ret, WX_nil, WB_true, WB_false, WOs_nil, WDs_nil, WV_some, WA_some, WE_some, WDV_zero, WDE_none, putD_some, putD_none, WOs_g, WG_tt, WG_ff, WG_tf, WG_ft, WG_un, WOs_mov, WOs_bin, WOs_un, WOs_pick, WOs_toInt, WOs_len, WOs_load, WOs_iaddr, WOs_indexS, WOs_extr, WOs_field, WOs_toStr, WOs_call, WOs_store, WOs_append, WOs_slice, WOs_mx, WOs_mn, WOs_build, WOs_bslice, WOs_mkslice, WOs_alloc, WOs_lenA, WDs_mov, WDs_bin, WDs_call, evalQ_mov, evalQ_bin, evalQ_un, evalQ_pick, evalQ_toInt, evalQ_len, evalQ_load, evalQ_iaddr, evalQ_indexS, evalQ_extr, evalQ_field, evalQ_mx, evalQ_mn, evalQ_lenA, evalE_fn, evalE_append, evs_cons, evs_nil, ev_tmp, ev_lit, nth_zero, nth_succ, put_zero, put_succ, pickV_tt, pickV_ff, extrV_0, extrV_1, extrV_2, cm, sub_i64, quo_i64 (show b ≠ 0 by omega), h4, Ret_ret, result_1]
noncomputable def K4 : Oracle := ext K3 60 floorS
theorem K4_ok : IOK Go.Proofs.Try.prog K4 := IOK.extL mixed tabOK otabOK K3_ok (g := 60) (fn := af60) rfl fun args av h => by
  unfold floorS at h
  split at h
  · split at h
    · rename_i hn; cases h; exact ⟨rfl, rfl, floor_run hn.1 hn.2.1 hn.2.2⟩
    · cases h
  · cases h
/-- bounds on the way of a step -/
theorem VF.bds {A B C : Int} (h : VF A B C) : -200000 ≤ 2 * A * nk A B ∧ 2 * A * nk A B ≤ 200000 ∧ -100000 ≤ A * nk A B ∧ A * nk A B ≤ 100000 ∧ -100000 ≤ nk A B ∧ nk A B ≤ 100000 ∧ -10000000000 ≤ A * nk A B * nk A B ∧ A * nk A B * nk A B ≤ 10000000000 ∧ -10000000000 ≤ B * nk A B ∧ B * nk A B ≤ 10000000000 ∧ 2 * nk A B * A = 2 * A * nk A B := by
  have hr := nB_range (B := B) h.a1
  unfold nB at hr
  have a1 := h.a1
  have a2 := h.a2
  have b1 := h.b1
  have b2 := h.b2
  generalize nk A B = k at hr ⊢
  have e1 : 2 * A * k = 2 * (A * k) := Int.mul_assoc 2 A k
  have e2 : 2 * k * A = 2 * A * k := by rw [Int.mul_assoc, Int.mul_comm k A, ← Int.mul_assoc]
  have k1 : -100000 ≤ A * k := by omega
  have k2 : A * k ≤ 100000 := by omega
  have k3 : -100000 ≤ k := by
    rcases Int.lt_or_le k 0 with e | e
    · have : A * k ≤ 1 * k := Int.mul_le_mul_of_nonpos_right a1 (by omega)
      omega
    · omega
  have k4 : k ≤ 100000 := by
    rcases Int.lt_or_le 0 k with e | e
    · have : 1 * k ≤ A * k := Int.mul_le_mul_of_nonneg_right a1 (by omega)
      omega
    · omega
  have m1 := mul_le_abs k1 k2 k3 k4
  have m2 := mul_le_abs b1 b2 k3 k4
  refine ⟨by omega, by omega, k1, k2, k3, k4, by omega, by omega, by omega, by omega, e2⟩
end Go.AM
