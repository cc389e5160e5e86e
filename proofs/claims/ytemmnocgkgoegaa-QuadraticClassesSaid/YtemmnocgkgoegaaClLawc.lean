/- QuadraticClasses: what the law's code answers. No condition. -/
import Derived.Test.YtemmnocgkgoegaaFrms
import Derived.Test.YtemmnocgkgoegaaFclc
set_option maxRecDepth 100000
set_option linter.unusedSimpArgs false
set_option linter.unusedVariables false
namespace Go.AM
open Go
section
variable {h : AHeap} {L : List F3} {K : List Fr} {Q : AX → St → Prop}
noncomputable def idxB : ACode := match of67.body with | .seq _ (.seq (.seq _ (.block _ (.loop b))) _) => b | c => c
theorem idx_loop {i j : Nat} {f : F3} (hi : h.get i = some (.cells (fCq f) true)) (hj : cellsOf h j = some (flat3 L)) (hn : L.length ≤ 50000) : ∀ (n k : Nat) (y2 y3 : AV), k + n = L.length → (∃ m, ∃ hm : m < L.length, k ≤ m ∧ L[m] = f) →
    (∀ (k' : Nat) (z2 z3 : AV), WX (lim otab.get L8) .ret K ⟨[sV j L.length, .int .i64 (k' : Int), z2, z3, .ptr i 0, .int .i64 (L.length : Int)], h⟩ Q) →
    WK (lim otab.get L8) (.loop idxB) K ⟨[sV j L.length, .int .i64 (k : Int), y2, y3, .ptr i 0, .int .i64 (L.length : Int)], h⟩ Q := by
  intro n
  induction n with
  | zero => rintro k y2 y3 hf ⟨m, hm, h1, h2⟩; omega
  | succ n ih =>
    rintro k y2 y3 hf ⟨m, hm, h1, h2⟩ hQ
    refine WK_loop' (by dsimp only [idxB, of67]) ?_
    have e : (k : Int) < (L.length : Int) := by omega
    have hk : k < L.length := by omega
    by_cases he : f = L[k]
    · have heT : (f = L[k]) = True := eq_true he
      simp (disch := omega) only [RSd.down, WDs_iaddr, WDs_load, iaddrV_ok, lss_int, e, decide_true, ldS hi, ldE hj hk, eqF (f := L[k]) (g := f), heT]
      exact hQ _ _ _
    · simp (disch := omega) only [RSd.down, WDs_iaddr, WDs_load, iaddrV_ok, lss_int, e, decide_true, ldS hi, ldE hj hk, eqF (f := L[k]) (g := f), he, decide_false, add_i64, show (k : Int) + 1 = ((k + 1 : Nat) : Int) from rfl]
      refine ih (k + 1) _ _ (by omega) ⟨m, hm, ?_, h2⟩ hQ
      rcases Nat.lt_or_ge k m with g | g
      · exact g
      · have : m = k := by omega
        subst this
        exact absurd h2.symm he
theorem c_idx {j : Nat} {f : F3} (hj : cellsOf h j = some (flat3 L)) (hlt : j < h.next) (hn : L.length ≤ 50000) (hm : f ∈ L) : ∃ k : Nat, lim otab.get L8 (.fn 67) [sV j L.length, fVq f] h = some (.int .i64 (k : Int), h.push (.cells (fCq f) true)) := by
  obtain ⟨v, h', e, ⟨k, rfl⟩, rfl⟩ := lim_walk_ex (T := otab.get) (I := L8) (f := 67) (fn := of67) rfl (a := [sV j L.length, fVq f]) (h := h)
    (P := fun v h' => (∃ k : Nat, v = .int .i64 (k : Int)) ∧ h' = h.push (.cells (fCq f) true)) rfl (by
      show WK _ _ [] ⟨[sV j L.length, fVq f, aundef, aundef, aundef, aundef], h⟩ _
      dsimp only [of67]
      have g0 : (h.push (.cells (fCq f) true)).get h.next = some (.cells (fCq f) true) := AHeap.get_push_same h _
      have gj : cellsOf (h.push (.cells (fCq f) true)) j = some (flat3 L) := by
        unfold cellsOf at hj ⊢; rw [AHeap.get_push_lt _ _ hlt]; exact hj
      have l0 : ∀ h, lenV 1 (sV j L.length) h = some (.int .i64 (L.length : Int)) := fun _ => rfl
      obtain ⟨m, hm1, hm2⟩ := List.getElem_of_mem hm
      simp only [RSd.down, WOs_box, evalA_box, cells_agg, l0]
      refine idx_loop g0 gj hn L.length 0 _ _ (by omega) ⟨m, hm1, Nat.zero_le _, hm2⟩ fun k z2 z3 => ?_
      simp only [RSd.down]
      exact ⟨(fun i hi => by cases hi), _, rfl, ⟨k, rfl⟩, trivial⟩)
  exact ⟨k, e⟩
theorem c_cont {h0 : AHeap} {b : AV} {f : F3} (H : LI h0 h b L) (hn : L.length ≤ 50000) (hm : f ∈ L) : lim otab.get L8 (.fn 38) [b, fVq f] h = some (.bool true, (h.push (.cells (fCq f) true)).push (.cells (fCq f) true)) := by
  rcases H.val with ⟨e1, e2⟩ | ⟨j, e1, e2, e3, e4, e5⟩
  · subst e2; exact nomatch hm
  · subst e1
    have gj : cellsOf (h.push (.cells (fCq f) true)) j = some (flat3 L) := by
      unfold cellsOf; rw [AHeap.get_push_lt _ _ e4, e5]
    obtain ⟨k, hk⟩ := c_idx (f := f) gj (Nat.lt_succ_of_lt e4) hn hm
    refine runH (fn := of38) rfl rfl ?_
    show WK _ _ [] ⟨[sV j L.length, fVq f, aundef], h⟩ _
    dsimp only [of38]
    have g0 : (h.push (.cells (fCq f) true)).get h.next = some (.cells (fCq f) true) := AHeap.get_push_same h _
    have hk0 : (0 : Int) ≤ (k : Int) := by omega
    simp only [RSd.down, WOs_box, evalA_box, cells_agg, ldS g0, hk, geq_int, hk0, decide_true, RetH_ret, result_1, and_self]
theorem c_redc {A B C : Int} : lim otab.get L8 (.fn 25) [fV A B C] h = some (redV A B C, h) := lim_oracle rfl
theorem c_repc {d p : Int} : lim otab.get L8 (.fn 28) [.int .i64 d, .int .i64 p] h = some (repV d p, h) := lim_oracle rfl
theorem c_splc {d p : Int} : lim otab.get L8 (.fn 35) [.int .i64 d, .int .i64 p] h = some (splV d p, h) := lim_oracle rfl
theorem c_rprc {n : Nat} (h2 : n ≤ 100000) : lim otab.get L8 (.fn 29) [.int .i64 (n : Int)] h = some (.bool (isPB n), h) :=
  lim_oracle (or_hit (spec := rprS) (if_pos ⟨Int.natCast_nonneg n, by omega⟩))
/-- is there a root of d modulo 4 p below k? -/
def rootBelow (d : Int) (p k : Nat) : Prop := ∃ b : Nat, b < k ∧ ((b : Int) * b - d) % (4 * (p : Int)) = 0
noncomputable def clB : ACode := match of11.body with | .seq _ (.seq _ (.seq _ (.seq _ (.seq _ (.seq _ (.seq _ (.seq _ (.seq (.seq _ (.block _ (.loop b))) _)))))))) => b | c => c
theorem cl_loop {d : Int} {p : Nat} {lb : AV} {s E : Int} {h0 : AHeap} (hf : fundP d) (d1 : -2000 ≤ d) (d2 : d < 0) (hp : QR.Prime p) (p2 : p < 1000) (hE : E = if repF (-d).toNat p 1000 0 = none then 10 else 0) : ∀ (n b : Nat) (h : AHeap) (fd : Bool) (y1 y3 y5 y6 : AV), b + n = p + 1 → LI h0 h lb (formL d) → (fd = true ↔ rootBelow d p b) →
    (∀ (h' : AHeap) (fd : Bool) (z0 z1 z3 z5 z6 : AV), (fd = true ↔ rootBelow d p (p + 1)) → WX (lim otab.get L8) (.exit 0) K ⟨[z0, z1, .int .i64 (p : Int), z3, .int .i64 d, z5, z6, .bool fd, .int .i64 E, lb, .int .i64 s], h'⟩ Q) →
    WK (lim otab.get L8) (.loop clB) K ⟨[.int .i64 (b : Int), y1, .int .i64 (p : Int), y3, .int .i64 d, y5, y6, .bool fd, .int .i64 E, lb, .int .i64 s], h⟩ Q := by
  have hp2 := hp.1
  intro n
  induction n with
  | zero =>
    intro b h fd y1 y3 y5 y6 hb H hfd hQ
    refine WK_loop' (by dsimp only [clB, of11]) ?_
    have e : ¬ (b : Int) ≤ (p : Int) := by omega
    simp only [RSd.down, leq_int, e, decide_false]
    exact hQ _ _ _ _ _ _ _ (by rw [show p + 1 = b by omega]; exact hfd)
  | succ n ih =>
    intro b h fd y1 y3 y5 y6 hb H hfd hQ
    refine WK_loop' (by dsimp only [clB, of11]) ?_
    have e : (b : Int) ≤ (p : Int) := by omega
    have e1 : (b : Int) * (b : Int) = ((b * b : Nat) : Int) := by simp
    have hbb : b * b ≤ 999 * 999 := Nat.mul_le_mul (by omega) (by omega)
    have key : ∀ fd', (fd' = true ↔ (fd = true ∨ ((b : Int) * b - d) % (4 * (p : Int)) = 0)) → (fd' = true ↔ rootBelow d p (b + 1)) := by
      intro fd' h1
      rw [h1, hfd]
      constructor
      · rintro (⟨b', g1, g2⟩ | g)
        · exact ⟨b', by omega, g2⟩
        · exact ⟨b, by omega, g⟩
      · rintro ⟨b', g1, g2⟩
        rcases Nat.lt_or_ge b' b with g | g
        · exact .inl ⟨b', g, g2⟩
        · have : b' = b := by omega
          subst this; exact .inr g2
    by_cases hr : ((b : Int) * b - d) % (4 * (p : Int)) = 0
    · obtain ⟨q1, q2, q3, q4, q5, q6⟩ := class_at hf d1 d2 hp p2 (by omega) hr
      have hr' := hr
      rw [e1] at hr' q1 q2 q3 q4 q5 q6
      have q7 : (((b * b : Nat) : Int) - d) / (4 * (p : Int)) = (((b * b : Nat) : Int) - d) / (4 * (p : Int)) := rfl
      generalize hc : (((b * b : Nat) : Int) - d) / (4 * (p : Int)) = c at q1 q2 q3 q4 q5 q6
      have hred : redV (p : Int) (b : Int) c = .tup [fVt (rd ((p : Int), (b : Int), c)), .int .i64 0] := by
        unfold redV
        have l1 : lg (p : Int) = 0 := by rcases lg_cases (p : Int) with g | g <;> omega
        have l2 : lg (b : Int) = 0 := by rcases lg_cases (b : Int) with g | g <;> omega
        have l3 : lg c = 0 := by rcases lg_cases c with g | g <;> omega
        rw [if_pos (by simp [bd, l1, l2, l3]), if_pos ⟨by omega, by omega⟩]
      generalize rd ((p : Int), (b : Int), c) = g at q5 q6 hred
      have n0 : (h.push (.cells [.int .i64 0, .int .i64 0, .int .i64 0] true)).get h.next = some (.cells [.int .i64 0, .int .i64 0, .int .i64 0] true) := AHeap.get_push_same h _
      have stv : stV 3 (.ptr h.next 0) (fVt g) (h.push (.cells [.int .i64 0, .int .i64 0, .int .i64 0] true)) = some (aundef, (h.push (.cells [.int .i64 0, .int .i64 0, .int .i64 0] true)).set h.next (.cells (fCt g) true)) := stV3 n0 rfl rfl rfl
      have H1 : LI h0 ((h.push (.cells [.int .i64 0, .int .i64 0, .int .i64 0] true)).set h.next (.cells (fCt g) true)) lb (formL d) := H.set _ _
      have hcont := c_cont (f := g) H1 (Nat.le_trans formL_len (by decide)) q5
      have H2 := (H1.push (.cells (fCq g) true)).push (.cells (fCq g) true)
      have gn : ((((h.push (.cells [.int .i64 0, .int .i64 0, .int .i64 0] true)).set h.next (.cells (fCt g) true)).push (.cells (fCq g) true)).push (.cells (fCq g) true)).get h.next = some (.cells (fCt g) true) := by
        rw [AHeap.get_push_lt _ _ (by rw [AHeap.next_push, AHeap.next_set, AHeap.next_push]; omega), AHeap.get_push_lt _ _ (by rw [AHeap.next_set, AHeap.next_push]; omega), AHeap.get_set_same]
      have hne : (!(decide (g.1 = 1) == decide (E = 0))) = false := by
        have h1 : decide (E = 0) = decide (g.1 = 1) := by
          refine decide_eq_decide.2 ?_
          rw [q6, hE]
          by_cases hx : repF (-d).toNat p 1000 0 = none
          · rw [if_pos hx]; exact ⟨fun h => absurd h (by decide), fun h => absurd hx h⟩
          · rw [if_neg hx]; exact ⟨fun _ => hx, fun _ => rfl⟩
        rw [h1]; cases decide (g.1 = 1) <;> rfl
      have hn0 : ((((b * b : Nat) : Int) - d) % (4 * (p : Int)) ≠ 0) = False := eq_false (fun hx => hx hr')
      have f00 : decide ((0 : Int) ≠ 0) = false := rfl
      simp (disch := omega) only [RSd.down, leq_int, e, decide_true, mul_i64, e1, sub_i64, rem_pos, neq_int, hn0, decide_false, quo_pos, hc]
      rw [build3q (a := (p : Int)) (b := (b : Int)) (c := c) rfl rfl rfl]
      simp only [RSd.down, c_redc, hred, evalA_alR, evalE_store, stv, neq_int, f00, ldrS, hcont, not_bool, Bool.not_true, WOs_faddr, evalQ_faddr, faddrV_0, ld0 gn, eql_int, neq_bool, hne]
      simp (disch := omega) only [RSd.down, add_i64, show (b : Int) + 1 = ((b + 1 : Nat) : Int) from rfl]
      exact ih (b + 1) _ true _ _ _ _ (by omega) H2 (key true (by simp [hr])) hQ
    · have hr' := hr
      rw [e1] at hr'
      have hn0 : ((((b * b : Nat) : Int) - d) % (4 * (p : Int)) ≠ 0) = True := eq_true hr'
      simp (disch := omega) only [RSd.down, leq_int, e, decide_true, mul_i64, e1, sub_i64, rem_pos, neq_int, hn0, add_i64, show (b : Int) + 1 = ((b + 1 : Nat) : Int) from rfl]
      exact ih (b + 1) _ fd _ _ _ _ (by omega) H (key fd (by simp [hr])) hQ
end
theorem clsLaw (d p : Int) : ∃ h', lim otab.get L8 (.fn 11) [.int .i16 d, .int .u16 p] .empty = some (.bool true, h') := by
  refine run_of (fn := of11) rfl rfl ?_
  show WK _ _ [] ⟨[.int .i16 d, .int .u16 p, aundef, aundef, aundef, aundef, aundef, aundef, aundef, aundef, aundef], .empty⟩ _
  dsimp only [of11]
  by_cases t1 : (0 : Int) ≤ d
  · simp only [RSd.down, geq_int, t1, decide_true, c_awake8, Ret_ret, result_1]
  by_cases t2 : d < -2000
  · simp only [RSd.down, geq_int, lss_int, t1, t2, decide_true, decide_false, c_awake8, Ret_ret, result_1]
  have hl : lg d = 0 := by rcases lg_cases d with h | h <;> omega
  by_cases t3 : ¬ fundP d
  · simp (disch := omega) only [RSd.down, geq_int, lss_int, t1, t2, decide_false, toIntV_i64, c_rfund8, t3, and_false, not_bool, Bool.not_false, c_awake8, Ret_ret, result_1]
  have t3 := Decidable.of_not_not t3
  by_cases t4 : (1000 : Int) ≤ p
  · simp (disch := omega) only [RSd.down, geq_int, lss_int, t1, t2, decide_false, decide_true, toIntV_i64, c_rfund8, t3, hl, and_self, not_bool, Bool.not_true, t4, c_awake8, Ret_ret, result_1]
  by_cases t5 : p < 2
  · simp (disch := omega) only [RSd.down, geq_int, lss_int, t1, t2, decide_false, decide_true, toIntV_i64, c_rfund8, t3, hl, and_self, not_bool, Bool.not_true, t4, t5, c_awake8, Ret_ret, result_1]
  obtain ⟨n, rfl⟩ := Int.eq_ofNat_of_zero_le (show 0 ≤ p by omega)
  by_cases t6 : isPB n = true
  · have hpP : isP n := by
      refine Classical.byContradiction fun hx => ?_
      rw [isPB_false hx] at t6; exact absurd t6 (by decide)
    have hp := isP.prime hpP
    have hln : lg (n : Int) = 0 := by rcases lg_cases (n : Int) with h | h <;> omega
    have hbd : bd [d, (n : Int)] = 0 := by simp [bd, hl, hln]
    have hpE : prE (n : Int) = 0 := by unfold prE; rw [if_pos ⟨by omega, by rw [Int.toNat_natCast]; exact t6⟩]
    have hspl : splV d (n : Int) = .tup [.int .i64 (QR.K d n), .int .i64 0] := by
      unfold splV; rw [hbd, if_neg (by decide), if_neg (fun h => h t3), if_neg (fun h => h hpE)]
    obtain ⟨x, y, E, hrep, hE⟩ : ∃ x y E : Int, repV d (n : Int) = .tup [.int .i64 x, .int .i64 y, .int .i64 E] ∧ E = if repF (-d).toNat n 1000 0 = none then 10 else 0 := by
      have h1 : repV d (n : Int) = (match repF (-d).toNat n 1000 0 with
          | some (a, b) => .tup [.int .i64 (a : Int), .int .i64 (b : Int), .int .i64 0]
          | none => .tup [.int .i64 0, .int .i64 0, .int .i64 10]) := by
        unfold repV
        rw [if_pos hbd, if_neg (by rintro (h | h) <;> first | omega | exact h t3), if_pos hpE, Int.toNat_natCast]
        cases repF (-d).toNat n 1000 0 <;> rfl
      rw [h1]
      cases hc : repF (-d).toNat n 1000 0 with
      | none => exact ⟨0, 0, 10, rfl, rfl⟩
      | some ab => obtain ⟨a, b⟩ := ab; exact ⟨a, b, 0, rfl, rfl⟩
    obtain ⟨lb, h1, e1, H1⟩ := forms_ok (h := .empty) (show -10000 ≤ d by omega) (by omega) t3
    have f00 : decide ((0 : Int) ≠ 0) = false := rfl
    simp (disch := omega) only [RSd.down, geq_int, lss_int, t1, t2, decide_false, decide_true, toIntV_i64, c_rfund8, t3, hl, and_self, not_bool, Bool.not_true, t4, t5, c_rprc, t6, c_splc, hspl, e1, c_repc, hrep, neq_int, f00]
    refine cl_loop t3 (by omega) (by omega) hp (by omega) hE (n + 1) 0 h1 false _ _ _ _ (by omega) H1 ⟨(fun h => nomatch h), fun ⟨b, hb, _⟩ => absurd hb (Nat.not_lt_zero _)⟩ ?_
    intro h' fd z0 z1 z3 z5 z6 hfd
    have hd4 : d % 4 = 0 ∨ d % 4 = 1 := by
      obtain ⟨_, _, h | h⟩ := t3 <;> omega
    have hroot := QR.root_iff hp hd4
    have hfk : fd = decide (QR.K d (n : Int) ≠ -1) := by
      have : fd = true ↔ QR.K d (n : Int) ≠ -1 := by
        rw [hfd, ← hroot]
        constructor
        · rintro ⟨b, g1, g2⟩; exact ⟨b, by omega, g2⟩
        · rintro ⟨b, g1, g2⟩; exact ⟨b, by omega, g2⟩
      cases fd with
      | true => exact (decide_eq_true (this.1 rfl)).symm
      | false => exact (decide_eq_false (fun h => nomatch this.2 h)).symm
    have heq : ∀ b : Bool, (b == b) = true := fun b => by cases b <;> rfl
    by_cases hk : QR.K d (n : Int) ≠ -1
    · have hk' : (QR.K d (n : Int) ≠ -1) = True := eq_true hk
      have : fd = true := by rw [hfk]; exact decide_eq_true hk
      subst this
      simp only [RSd.down, neq_int, hk', decide_true, eql_bool, heq, c_awake8, Ret_ret, result_1]
    · have hk' : (QR.K d (n : Int) ≠ -1) = False := eq_false hk
      have : fd = false := by rw [hfk]; exact decide_eq_false hk
      subst this
      have hnone : repF (-d).toNat n 1000 0 = none := Classical.byContradiction fun hx => hk (rep_sym hd4 (by omega) hp (by omega) hx)
      rw [hnone, if_pos rfl] at hE
      subst hE
      simp only [RSd.down, neq_int, hk', decide_false, eql_bool, heq, eql_int, decide_true, c_awake8, Ret_ret, result_1]
  · have t6 : isPB n = false := by cases h : isPB n <;> simp_all
    simp (disch := omega) only [RSd.down, geq_int, lss_int, t1, t2, decide_false, decide_true, toIntV_i64, c_rfund8, t3, hl, and_self, not_bool, Bool.not_true, Bool.not_false, t4, t5, c_rprc, t6, c_awake8, Ret_ret, result_1]
end Go.AM
