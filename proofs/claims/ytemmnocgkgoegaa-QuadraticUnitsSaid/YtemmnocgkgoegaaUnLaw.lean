/- QuadraticUnits: the arguments beyond the bounds. No condition. -/
import Derived.Test.YtemmnocgkgoegaaUnm
set_option maxRecDepth 100000
set_option linter.unusedSimpArgs false
set_option linter.unusedVariables false
namespace Go.AM
open Go
abbrev zU : AV := .agg [.bool false, .str [], .bool false, .str []]
abbrev zC : List AV := [.bool false, .str [], .bool false, .str []]
section
variable {h : AHeap} {i : Nat} {a b c d : AV} {r : Bool}
theorem l4S (hg : h.get i = some (.cells [a, b, c, d] r)) : loadV (some 4) (.ptr i 0) h = some (.agg [a, b, c, d]) := by
  show (match cellsOf h i with | some c => fit (some 4) 0 c | none => none) = _
  rw [cellsOf_get hg]
  show (match cut [a, b, c, d] 0 4 with | some r => some (AV.agg r) | none => none) = _
  have : cut [a, b, c, d] 0 4 = some [a, b, c, d] := cut_all [a, b, c, d]
  rw [this]
theorem l10 (hg : h.get i = some (.cells [a] r)) : loadV none (.ptr i 0) h = some a := loadV_at (cellsOf_get hg) rfl
theorem stI4 (hg : h.get i = some (.cells [a, b, c, d] true)) : stI 4 (.ptr i 0) zU h = some (aundef, h.set i (.cells zC true)) := by
  have ho : ownOf h i = some [a, b, c, d] := by unfold ownOf; rw [hg]
  have hl : lay [a, b, c, d] 0 zC = some zC := by rw [lay_cons, lay_cons, lay_cons, lay_cons, lay_zero]
  unfold stI
  simp only [evalE, ev_lit, ho]
  show (if zC.length = 4 ∧ zC.all AV.scalar = true then (match lay [a, b, c, d] 0 zC with | some c' => some (aundef, h.set i (.cells c' true)) | none => none) else none) = _
  rw [if_pos ⟨rfl, rfl⟩, hl]
theorem stI1 {n : Int} (hg : h.get i = some (.cells [a] true)) : stI 1 (.ptr i 0) (.int .i64 n) h = some (aundef, h.set i (.cells [.int .i64 n] true)) := by
  have ho : ownOf h i = some [a] := by unfold ownOf; rw [hg]
  have hl : lay [a] 0 [.int .i64 n] = some [.int .i64 n] := by rw [lay_cons, lay_zero]
  unfold stI
  simp only [evalE, ev_lit, ho]
  show (if ([.int .i64 n] : List AV).length = 1 ∧ ([.int .i64 n] : List AV).all AV.scalar = true then (match lay [a] 0 [.int .i64 n] with | some c' => some (aundef, h.set i (.cells c' true)) | none => none) else none) = _
  rw [if_pos ⟨rfl, rfl⟩, hl]
theorem resU {x y z : Nat} {tm : List AV} {v u w : AV} (h1 : loadV (some 4) (nth tm x) h = some v) (h2 : loadV none (nth tm y) h = some u) (h3 : loadV none (nth tm z) h = some w) : result [.cell x (some 4), .cell y none, .cell z none] tm h = some (.tup [v, u, w]) := by
  have e1 : resOf tm h (.cell x (some 4)) = some v := h1
  have e2 : resOf tm h (.cell y none) = some u := h2
  have e3 : resOf tm h (.cell z none) = some w := h3
  simp only [result, resOfs, e1, e2, e3]
end
theorem fund_err {d : Int} (hd : d < 0 ∨ 1000 < d) : ∃ h', lim otab.get U15 (.fn 20) [.int .i64 d] .empty = some (.tup [zU, .int .i64 0, .int .i64 (if lg d = 0 then 3 else 4)], h') := by
  obtain ⟨H, hH⟩ : ∃ H, H = ((((AHeap.empty.push (.cells [.int .i64 d] true)).push (.cells zC true)).push (.cells [.int .i64 0] true)).push (.cells [.int .i64 0] true)) := ⟨_, rfl⟩
  have hn : H.next = 4 := by rw [hH]; rfl
  have q0 : H.get 0 = some (.cells [.int .i64 d] true) := by rw [hH]; simp [AHeap.get_push]
  have q1 : H.get 1 = some (.cells zC true) := by rw [hH]; simp [AHeap.get_push]
  have q2 : H.get 2 = some (.cells [.int .i64 0] true) := by rw [hH]; simp [AHeap.get_push]
  have q3 : H.get 3 = some (.cells [.int .i64 0] true) := by rw [hH]; simp [AHeap.get_push]
  obtain ⟨H', hH'⟩ : ∃ H', H' = H.push (.cells [.int .i64 d] true) := ⟨_, rfl⟩
  have p0 : H'.get 0 = some (.cells [.int .i64 d] true) := by rw [hH', AHeap.get_push_lt _ _ (by omega)]; exact q0
  have p1 : H'.get 1 = some (.cells zC true) := by rw [hH', AHeap.get_push_lt _ _ (by omega)]; exact q1
  have p2 : H'.get 2 = some (.cells [.int .i64 0] true) := by rw [hH', AHeap.get_push_lt _ _ (by omega)]; exact q2
  have p3 : H'.get 3 = some (.cells [.int .i64 0] true) := by rw [hH', AHeap.get_push_lt _ _ (by omega)]; exact q3
  have fin : ∀ e : Int, (∀ (tm : List AV), nth tm 2 = .ptr 1 0 → nth tm 3 = .ptr 2 0 → nth tm 4 = .ptr 3 0 → result [.cell 2 (some 4), .cell 3 none, .cell 4 none] tm (((H'.set 1 (.cells zC true)).set 2 (.cells [.int .i64 0] true)).set 3 (.cells [.int .i64 e] true)) = some (.tup [zU, .int .i64 0, .int .i64 e])) := by
    intro e tm h2 h3 h4
    refine resU ?_ ?_ ?_
    · rw [h2]; exact l4S (by rw [AHeap.get_set_ne _ _ (by decide), AHeap.get_set_ne _ _ (by decide), AHeap.get_set_same])
    · rw [h3]; exact l10 (by rw [AHeap.get_set_ne _ _ (by decide), AHeap.get_set_same])
    · rw [h4]; exact l10 (AHeap.get_set_same _ _ _)
  have s1 : stI 4 (.ptr 1 0) zU H' = some (aundef, H'.set 1 (.cells zC true)) := stI4 p1
  have s2 : stI 1 (.ptr 2 0) (.int .i64 0) (H'.set 1 (.cells zC true)) = some (aundef, (H'.set 1 (.cells zC true)).set 2 (.cells [.int .i64 0] true)) := stI1 (by rw [AHeap.get_set_ne _ _ (by decide)]; exact p2)
  have s3 : ∀ e, stI 1 (.ptr 3 0) (.int .i64 e) ((H'.set 1 (.cells zC true)).set 2 (.cells [.int .i64 0] true)) = some (aundef, ((H'.set 1 (.cells zC true)).set 2 (.cells [.int .i64 0] true)).set 3 (.cells [.int .i64 e] true)) := fun e => stI1 (by rw [AHeap.get_set_ne _ _ (by decide), AHeap.get_set_ne _ _ (by decide)]; exact p3)
  have hb0 : ∀ (tm : List AV) (hh : AHeap), evalQ (.build zC []) tm hh = some zU := fun _ _ => rfl
  refine run_of (fn := of20) rfl rfl ?_
  show WK _ _ [] ⟨.int .i64 d :: List.replicate 79 aundef, .empty⟩ _
  simp only [List.replicate]
  dsimp only [of20, af20, Z.t, Z.f, Z.i, Z.q, Z.m, Z.l, Z.b, Z.c]
  simp only [RSd.down, WOs_box, bxA, alA, AHeap.next_push, Nat.zero_add, show AV.cells (.int .i64 d) = [.int .i64 d] from rfl]
  rw [← hH]
  simp only [RSd.down, l10 q0]
  rw [bslice1 rfl rfl]
  have hbd : lim otab.get U15 (.fn 39) [.slice H.next 0 1 (.exact 1)] (H.push (.cells [.int .i64 d] true)) = some (.int .i64 (lg d), H.push (.cells [.int .i64 d] true)) := bounded_1 (I := U15) (fun _ _ => rfl)
  rw [← hH'] at hbd
  simp only [RSd.down]
  rw [← hH']
  simp only [RSd.down, hbd]
  rcases lg_cases d with ⟨h0, h1⟩ | ⟨h4, _⟩
  · rw [h0, if_pos rfl]
    rcases hd with hd | hd
    · have e1 : d < 1 := by omega
      simp only [RSd.down, eql_int, decide_true, l10 p0, lss_int, e1, neq_int, show decide ((3 : Int) ≠ 0) = true from rfl, hb0, evalE_stI, s1, s2, s3, Ret_ret]
      exact fin 3 _ rfl rfl rfl
    · have e1 : ¬ d < 1 := by omega
      have e2 : (1000 : Int) < d := by omega
      simp only [RSd.down, eql_int, decide_true, l10 p0, lss_int, e1, decide_false, gtr_int, e2, neq_int, show decide ((3 : Int) ≠ 0) = true from rfl, hb0, evalE_stI, s1, s2, s3, Ret_ret]
      exact fin 3 _ rfl rfl rfl
  · rw [h4, if_neg (by decide)]
    simp only [RSd.down, eql_int, show decide ((4 : Int) = 0) = false from rfl, neq_int, show decide ((4 : Int) ≠ 0) = true from rfl, hb0, evalE_stI, s1, s2, s3, Ret_ret]
    exact fin 4 _ rfl rfl rfl
theorem unLaw_err {d : Int} (hd : d < 0 ∨ 1000 < d) : ∃ h', lim otab.get U15 (.fn 4) [.int .i64 d] .empty = some (.bool true, h') := by
  obtain ⟨h1, e1⟩ := fund_err hd
  have claw : ∀ h, lim otab.get U15 (.fn 17) [] h = some (.bool true, h) := fun h => lim_oracle rfl
  have clg : ∀ h, lim otab.get U15 (.fn 16) [.int .i64 d] h = some (.int .i64 (lg d), h) := fun h => lim_oracle rfl
  have n1 : (h1.push (.cells zC true)).get h1.next = some (.cells zC true) := AHeap.get_push_same h1 _
  have st : stI 4 (.ptr h1.next 0) zU (h1.push (.cells zC true)) = some (aundef, (h1.push (.cells zC true)).set h1.next (.cells zC true)) := stI4 n1
  have ld : loadV (some 4) (.ptr h1.next 0) ((h1.push (.cells zC true)).set h1.next (.cells zC true)) = some zU := l4S (AHeap.get_set_same _ _ _)
  have hb0 : ∀ (tm : List AV) (hh : AHeap), evalQ (.build zC []) tm hh = some zU := fun _ _ => rfl
  have heq : bin .eql (.flat [0, 2, 0, 2]) zU zU = some (.bool true) := rfl
  refine run_of (fn := of4) rfl rfl ?_
  show WK _ _ [] ⟨[.int .i64 d, aundef, aundef, aundef, aundef, aundef, aundef, aundef], .empty⟩ _
  dsimp only [of4]
  rcases lg_cases d with ⟨h0, h2⟩ | ⟨h4, _⟩
  · rw [h0, if_pos rfl] at e1
    rcases hd with hd | hd
    · have e2 : d < 0 := hd
      simp only [RSd.down, e1, alA, evalE_stI, st, clg, h0, eql_int, decide_true, lss_int, e2, neq_int, show decide ((3 : Int) ≠ 0) = true from rfl, ld, hb0, heq, claw, Ret_ret, result_1]
    · have e2 : ¬ d < 0 := by omega
      have e3 : (1000 : Int) < d := by omega
      simp only [RSd.down, e1, alA, evalE_stI, st, clg, h0, eql_int, decide_true, lss_int, e2, decide_false, gtr_int, e3, neq_int, show decide ((3 : Int) ≠ 0) = true from rfl, ld, hb0, heq, claw, Ret_ret, result_1]
  · rw [h4, if_neg (by decide)] at e1
    simp only [RSd.down, e1, alA, evalE_stI, st, clg, h4, eql_int, show decide ((4 : Int) = 0) = false from rfl, decide_true, neq_int, show decide ((4 : Int) ≠ 0) = true from rfl, ld, hb0, heq, claw, Ret_ret, result_1]
end Go.AM
