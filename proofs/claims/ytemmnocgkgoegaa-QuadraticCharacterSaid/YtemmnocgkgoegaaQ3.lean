/- Bounds, squarefree parts, discriminants, as functions with errors: what the code computes. No condition. -/
import Derived.Test.YtemmnocgkgoegaaQ2
set_option maxRecDepth 100000
set_option linter.unusedSimpArgs false
namespace Go.AM
open Go
def RetH (rs : List ARes) (av : AV) (h : AHeap) (x : AX) (s : St) : Prop := (∀ i, x ≠ .exit i) ∧ result rs s.tm s.h = some av ∧ s.h = h
theorem RetH_ret {rs : List ARes} {av : AV} {h : AHeap} {s : St} : RetH rs av h .ret s ↔ result rs s.tm s.h = some av ∧ s.h = h := ⟨fun h => h.2, fun h => ⟨(fun i hi => by cases hi), h⟩⟩
theorem runH {T : FnTab} {I : Oracle} {f : Nat} {fn : AFn} (hT : T f = some fn) {a : List AV} {h h' : AHeap} {av : AV} (hI : I f a h = none)
    (hw : WK (lim T I) fn.body [] ⟨a ++ List.replicate (fn.nt - a.length) aundef, h⟩ (RetH fn.res av h')) : lim T I (.fn f) a h = some (av, h') := lim_walk hT hI hw
theorem bslice2 {tm : List AV} {h : AHeap} {z z' : AV} {x y : AOpd} {v w : AV} (hx : ev tm x = v) (hy : ev tm y = w) (hv : v.scalar = true) (hw : w.scalar = true) : evalA (.bslice 2 1 [z, z'] [(0, x), (1, y)]) tm h = some (.cells [v, w] true, .slice h.next 0 2 (.exact 2)) := by
  have hc : v.cells = [v] := by cases v <;> simp_all [AV.cells, AV.scalar]
  have hd : w.cells = [w] := by cases w <;> simp_all [AV.cells, AV.scalar]
  simp only [evalA, fillsS, hx, hy, hc, hd]
  rfl
theorem bslice3 {tm : List AV} {h : AHeap} {z z' z'' : AV} {x y u : AOpd} {v w q : AV} (hx : ev tm x = v) (hy : ev tm y = w) (hu : ev tm u = q) (hv : v.scalar = true) (hw : w.scalar = true) (hq : q.scalar = true) : evalA (.bslice 3 1 [z, z', z''] [(0, x), (1, y), (2, u)]) tm h = some (.cells [v, w, q] true, .slice h.next 0 3 (.exact 3)) := by
  have hc : v.cells = [v] := by cases v <;> simp_all [AV.cells, AV.scalar]
  have hd : w.cells = [w] := by cases w <;> simp_all [AV.cells, AV.scalar]
  have he : q.cells = [q] := by cases q <;> simp_all [AV.cells, AV.scalar]
  simp only [evalA, fillsS, hx, hy, hu, hc, hd, he]
  rfl

def bd : List Int → Int
  | [] => 0
  | x :: r => if lg x = 0 then bd r else 4
theorem lg_cases (n : Int) : (lg n = 0 ∧ -100000 ≤ n ∧ n ≤ 100000) ∨ (lg n = 4 ∧ (n > 100000 ∨ n < -100000)) := by
  unfold lg
  by_cases h : n > 100000 ∨ n < -100000
  · rw [if_pos h]; exact .inr ⟨rfl, h⟩
  · rw [if_neg h]; exact .inl ⟨rfl, by omega, by omega⟩
theorem bd_one (n : Int) : bd [n] = lg n := by
  rcases lg_cases n with ⟨h, _⟩ | ⟨h, _⟩ <;> simp [bd, h]
noncomputable def boundB : ACode := match of39.body with | .seq _ (.seq (.seq _ (.block _ (.loop b))) _) => b | c => c
section
variable {C : CallT} {K : List Fr} {Q : AX → St → Prop} {h : AHeap}
theorem bound_loop {i : Nat} {cap : ACap} {l : List Int} (hc : cellsOf h i = some (l.map (AV.int .i64))) (hn : l.length ≤ 1000) : ∀ (r : Nat) (k : Nat) (y2 y3 : AV), k + r = l.length →
    (bd (l.drop k) = 0 → ∀ z1 z2 z3 : AV, WX C (.exit 0) K ⟨[.slice i 0 l.length cap, z1, z2, z3, .int .i64 (l.length : Int)], h⟩ Q) →
    (bd (l.drop k) = 4 → ∀ z2 z3 : AV, WX C .ret K ⟨[.slice i 0 l.length cap, .int .i64 4, z2, z3, .int .i64 (l.length : Int)], h⟩ Q) →
    WK C (.loop boundB) K ⟨[.slice i 0 l.length cap, .int .i64 (k : Int), y2, y3, .int .i64 (l.length : Int)], h⟩ Q
  | 0, k, y2, y3, hk, h0, h4 => by
    refine WK_loop' (by dsimp only [boundB, of39]) ?_
    have e : ¬ ((k : Int) < (l.length : Int)) := by omega
    simp only [RSd.down, lss_int, e, decide_false]
    refine h0 ?_ _ _ _
    rw [List.drop_of_length_le (by omega)]; rfl
  | r + 1, k, y2, y3, hk, h0, h4 => by
    refine WK_loop' (by dsimp only [boundB, of39]) ?_
    have e : (k : Int) < (l.length : Int) := by omega
    have hlt : k < l.length := by omega
    have hx : (l.map (AV.int .i64))[0 + k * 1]? = some (.int .i64 l[k]) := by
      rw [Nat.zero_add, Nat.mul_one, List.getElem?_map, List.getElem?_eq_getElem hlt]; rfl
    have hd : l.drop k = l[k] :: l.drop (k + 1) := List.drop_eq_getElem_cons hlt
    rw [hd] at h0 h4
    generalize l[k] = x at hx h0 h4
    have hgo : lg x = 0 → ∀ z2 z3 : AV, WX C .normal [] ⟨[], h⟩ (fun _ _ => True) ∧ WK C (.loop boundB) K ⟨[.slice i 0 l.length cap, .int .i64 ((k + 1 : Nat) : Int), z2, z3, .int .i64 (l.length : Int)], h⟩ Q := by
      intro hl z2 z3
      refine ⟨WX_nil.2 trivial, bound_loop hc hn r (k + 1) z2 z3 (by omega) (fun hb => h0 ?_) (fun hb => h4 ?_)⟩
      · simp [bd, hl, hb]
      · simp [bd, hl, hb]
    by_cases h1 : 100000 < x
    · have hl : lg x = 4 := by unfold lg; rw [if_pos (.inl h1)]
      simp (disch := omega) only [RSd.down, lss_int, gtr_int, e, decide_true, iaddrV_ok, loadV_at hc hx, h1]
      exact h4 (by simp [bd, hl]) _ _
    · by_cases h2 : x < -100000
      · have hl : lg x = 4 := by unfold lg; rw [if_pos (.inr h2)]
        simp (disch := omega) only [RSd.down, lss_int, gtr_int, e, decide_true, decide_false, iaddrV_ok, loadV_at hc hx, h1, h2]
        exact h4 (by simp [bd, hl]) _ _
      · have hl : lg x = 0 := by unfold lg; rw [if_neg (by omega)]
        simp (disch := omega) only [RSd.down, lss_int, gtr_int, e, decide_true, decide_false, iaddrV_ok, loadV_at hc hx, h1, h2, add_i64, show (k : Int) + 1 = ((k + 1 : Nat) : Int) from rfl]
        exact (hgo hl _ _).2
end
theorem bd_cases : ∀ l : List Int, bd l = 0 ∨ bd l = 4
  | [] => .inl rfl
  | x :: r => by
    unfold bd
    by_cases h : lg x = 0
    · rw [if_pos h]; exact bd_cases r
    · rw [if_neg h]; exact .inr rfl
theorem bounded_spec {I : Oracle} (hI : ∀ a h, I 39 a h = none) {h : AHeap} {i : Nat} {cap : ACap} {l : List Int} (hc : cellsOf h i = some (l.map (AV.int .i64))) (hn : l.length ≤ 1000) : lim otab.get I (.fn 39) [.slice i 0 l.length cap] h = some (.int .i64 (bd l), h) := by
  refine runH (fn := of39) rfl (hI _ _) ?_
  show WK _ _ [] ⟨[.slice i 0 l.length cap, aundef, aundef, aundef, aundef], h⟩ _
  dsimp only [of39]
  simp only [RSd.down, AM.lenV]
  refine bound_loop hc hn l.length 0 _ _ (by omega) (fun hb z1 z2 z3 => ?_) (fun hb z2 z3 => ?_)
  · simp only [RSd.down, RetH_ret, result_1]
    rw [List.drop_zero] at hb
    rw [hb]; exact ⟨rfl, trivial⟩
  · simp only [RSd.down, RetH_ret, result_1]
    rw [List.drop_zero] at hb
    rw [hb]; exact ⟨rfl, trivial⟩
theorem bounded_1 {I : Oracle} (hI : ∀ a h, I 39 a h = none) {h : AHeap} {n : Int} : lim otab.get I (.fn 39) [.slice h.next 0 1 (.exact 1)] (h.push (.cells [.int .i64 n] true)) = some (.int .i64 (lg n), h.push (.cells [.int .i64 n] true)) := by
  rw [← bd_one n]
  exact bounded_spec hI (l := [n]) cellsOf_push (by simp)
theorem bounded_2 {I : Oracle} (hI : ∀ a h, I 39 a h = none) {h : AHeap} {n m : Int} : lim otab.get I (.fn 39) [.slice h.next 0 2 (.exact 2)] (h.push (.cells [.int .i64 n, .int .i64 m] true)) = some (.int .i64 (bd [n, m]), h.push (.cells [.int .i64 n, .int .i64 m] true)) :=
  bounded_spec hI (l := [n, m]) cellsOf_push (by simp)
theorem bounded_3 {I : Oracle} (hI : ∀ a h, I 39 a h = none) {h : AHeap} {n m q : Int} : lim otab.get I (.fn 39) [.slice h.next 0 3 (.exact 3)] (h.push (.cells [.int .i64 n, .int .i64 m, .int .i64 q] true)) = some (.int .i64 (bd [n, m, q]), h.push (.cells [.int .i64 n, .int .i64 m, .int .i64 q] true)) :=
  bounded_spec hI (l := [n, m, q]) cellsOf_push (by simp)

theorem bounded_1e {I : Oracle} (hI : ∀ a h, I 39 a h = none) {n : Int} : lim otab.get I (.fn 39) [.slice 0 0 1 (.exact 1)] (AHeap.empty.push (.cells [.int .i64 n] true)) = some (.int .i64 (lg n), AHeap.empty.push (.cells [.int .i64 n] true)) := bounded_1 hI (h := .empty)
theorem bounded_2e {I : Oracle} (hI : ∀ a h, I 39 a h = none) {n m : Int} : lim otab.get I (.fn 39) [.slice 0 0 2 (.exact 2)] (AHeap.empty.push (.cells [.int .i64 n, .int .i64 m] true)) = some (.int .i64 (bd [n, m]), AHeap.empty.push (.cells [.int .i64 n, .int .i64 m] true)) := bounded_2 hI (h := .empty)
theorem bounded_3e {I : Oracle} (hI : ∀ a h, I 39 a h = none) {n m q : Int} : lim otab.get I (.fn 39) [.slice 0 0 3 (.exact 3)] (AHeap.empty.push (.cells [.int .i64 n, .int .i64 m, .int .i64 q] true)) = some (.int .i64 (bd [n, m, q]), AHeap.empty.push (.cells [.int .i64 n, .int .i64 m, .int .i64 q] true)) := bounded_3 hI (h := .empty)
/-- SquarefreePart -/
def sfp (n : Int) : AV := if lg n = 0 then (if n = 0 then .tup [.int .i64 0, .int .i64 0, .int .i64 6] else .tup [.int .i64 (sq n).1, .int .i64 ((sq n).2 : Int), .int .i64 0]) else .tup [.int .i64 0, .int .i64 0, .int .i64 4]
def sfpS : List AV → Option AV
  | [.int .i64 n] => some (sfp n)
  | _ => none
theorem c_part6 {n : Int} {h : AHeap} (h0 : n ≠ 0) (h1 : -100000 ≤ n) (h2 : n ≤ 100000) : lim otab.get I6 (.fn 40) [.int .i64 n] h = some (.tup [.int .i64 (sq n).1, .int .i64 ((sq n).2 : Int)], h) :=
  lim_oracle (or_hit (spec := partS) (if_pos ⟨h0, h1, h2⟩))
theorem sfp_run (n : Int) : ∃ h', lim otab.get I6 (.fn 12) [.int .i64 n] .empty = some (sfp n, h') := by
  refine run_of (fn := of12) rfl rfl ?_
  show WK _ _ [] ⟨[.int .i64 n, aundef, aundef, aundef], .empty⟩ _
  dsimp only [of12]
  have hI : ∀ a h, I6 39 a h = none := fun _ _ => rfl
  simp only [RSd.down]
  rw [bslice1 (v := .int .i64 n) rfl rfl]
  simp only [RSd.down, bounded_1e hI, eql_int]
  unfold sfp
  rcases lg_cases n with ⟨hl, hb1, hb2⟩ | ⟨hl, hb⟩
  · by_cases h0 : n = 0
    · subst h0
      simp only [hl, RSd.down, eql_int, neq_int, decide_true, decide_false, Ret_ret, result_3, if_true, ne_eq, not_false_eq_true, show ((6 : Int) = 0) = False from by simp]
    · simp only [hl, h0, RSd.down, eql_int, neq_int, decide_true, decide_false, c_part6 h0 hb1 hb2, Ret_ret, result_3, if_true, if_false, ne_eq, not_true_eq_false]
  · simp only [hl, RSd.down, eql_int, neq_int, decide_true, decide_false, Ret_ret, result_3, if_false, ne_eq, not_false_eq_true, show ((4 : Int) = 0) = False from by simp]
noncomputable def I7 : Oracle := ext I6 12 sfpS
theorem I7_ok : IOK Go.Proofs.Try.prog I7 := IOK.extL mixed tabOK otabOK I6_ok (g := 12) (fn := af12) rfl fun args av h => by
  unfold sfpS at h
  split at h
  · rename_i n
    cases h
    refine ⟨rfl, ?_, sfp_run n⟩
    unfold sfp; split
    · split <;> rfl
    · rfl
  · cases h
end Go.AM
