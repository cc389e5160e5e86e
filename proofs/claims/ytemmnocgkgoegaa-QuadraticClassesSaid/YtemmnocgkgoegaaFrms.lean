/- The lists of reduced forms: what the code computes. No condition. -/
import Derived.Test.YtemmnocgkgoegaaFrmc
set_option maxRecDepth 100000
set_option linter.unusedSimpArgs false
set_option linter.unusedVariables false
namespace Go.AM
open Go
theorem build3q {tm : List AV} {h : AHeap} {x y w : AOpd} {z0 z1 z2 : AV} {a b c : Int} (hx : ev tm x = .int .i64 a) (hy : ev tm y = .int .i64 b) (hw : ev tm w = .int .i64 c) : evalQ (.build [z0, z1, z2] [(0, (1, x)), (1, (1, y)), (2, (1, w))]) tm h = some (fV a b c) := by
  simp only [evalQ, fills, hx, hy, hw]
  rfl
section
variable {h : AHeap} {i : Nat} {a b c : AV} {r : Bool}
theorem lds0 : loadV none (.ptr i 0) (h.set i (.cells [a, b, c] r)) = some a := ld0 (AHeap.get_set_same _ _ _)
theorem lds1 : loadV none (.ptr i 1) (h.set i (.cells [a, b, c] r)) = some b := ld1 (AHeap.get_set_same _ _ _)
theorem lds2 : loadV none (.ptr i 2) (h.set i (.cells [a, b, c] r)) = some c := ld2 (AHeap.get_set_same _ _ _)
theorem ldsS : loadV (some 3) (.ptr i 0) (h.set i (.cells [a, b, c] r)) = some (.agg [a, b, c]) := ldS (AHeap.get_set_same _ _ _)
end
theorem rowF_len (d : Int) (a : Nat) : ∀ (f : Nat) (b : Int) (L : List F3), (rowF d a f b L).length ≤ L.length + f
  | 0, _, _ => Nat.le_refl _
  | f + 1, b, L => by
    have h1 := rowF_len d a f (b + 1) (L ++ itemL d a b)
    have h2 := itemL_len d a b
    unfold rowF
    rw [List.length_append] at h1
    omega
theorem mid_of {x : Int} (h1 : -1000000 ≤ x) (h2 : x ≤ 1000000) : mid x := ⟨by omega, by omega⟩
section
variable {K : List Fr} {Q : AX → St → Prop} {h : AHeap}
theorem c_qred8 {A B C : Int} (ha : mid A) (hb : mid B) (hc : mid C) : lim otab.get L8 (.fn 54) [fV A B C] h = some (.bool (decide (isRed (A, B, C))), h) :=
  lim_oracle (or_hit (spec := isRedS) (if_pos ⟨ha.small, hb.small, hc.small⟩))
theorem c_rred8 {A B C : Int} (ha : mid A) (hb : mid B) (hc : mid C) : lim otab.get L8 (.fn 33) [fV A B C] h = some (.bool (decide (isRed (A, B, C))), h) :=
  lim_oracle (or_hit (spec := isRedS) (if_pos ⟨ha.small, hb.small, hc.small⟩))
theorem c_gcd8 {A B : Int} (ha : mid A) (hb : mid B) : lim otab.get L8 (.fn 55) [.int .i64 A, .int .i64 B] h = some (.int .i64 (Int.gcd A B : Int), h) :=
  lim_oracle (or_hit (spec := gcdS) (if_pos ⟨ha, hb⟩))
theorem c_rg38 {A B C : Int} (ha : mid A) (hb : mid B) (hc : mid C) : lim otab.get L8 (.fn 58) [.int .i64 A, .int .i64 B, .int .i64 C] h = some (.int .i64 (g3 A B C : Int), h) :=
  lim_oracle (or_hit (spec := rg3S) (if_pos ⟨ha, hb, hc⟩))
theorem gcd2 {A B C : Int} : Int.gcd ((Int.gcd A B : Nat) : Int) C = g3 A B C := by
  unfold g3 Int.gcd; rw [Int.natAbs_natCast]
theorem gcd_mid {A B : Int} (ha : -1000000 ≤ A) (ha2 : A ≤ 1000000) (h0 : 1 ≤ A) : mid ((Int.gcd A B : Nat) : Int) := by
  have h1 : Int.gcd A B ≤ A.natAbs := Nat.gcd_le_left _ (by omega)
  exact mid_of (by omega) (by omega)
noncomputable def pfI : ACode := match of22.body with | .seq _ (.seq _ (.seq _ (.seq _ (.seq _ (.seq (.seq _ (.block _ (.loop (.seq _ (.seq (.block _ (.seq _ (.block _ (.loop b)))) _))))) _))))) => b | c => c
noncomputable def pfO : ACode := match of22.body with | .seq _ (.seq _ (.seq _ (.seq _ (.seq _ (.seq (.seq _ (.block _ (.loop b))) _))))) => b | c => c
theorem pfI_loop {d : Int} {a : Nat} {h0 : AHeap} (d1 : -10000 ≤ d) (d2 : d < 0) (a1 : 1 ≤ a) (a2 : a ≤ 60) : ∀ (f : Nat) (b : Int) (L : List F3) (h : AHeap) (out y1 y3 y6 y7 y8 : AV), b + f = a + 1 → -(a : Int) ≤ b → LI h0 h out L → L.length + f ≤ 100000 →
    (∀ (h' : AHeap) (out' z1 z2 z3 z6 z7 z8 : AV), LI h0 h' out' (rowF d a f b L) → WX (lim otab.get L8) (.exit 2) K ⟨[.int .i64 d, z1, z2, z3, .int .i64 (a : Int), out', z6, z7, z8], h'⟩ Q) →
    WK (lim otab.get L8) (.loop pfI) K ⟨[.int .i64 d, y1, .int .i64 b, y3, .int .i64 (a : Int), out, y6, y7, y8], h⟩ Q := by
  intro f
  induction f with
  | zero =>
    intro b L h out y1 y3 y6 y7 y8 hb hb2 H hn hQ
    refine WK_loop' (by dsimp only [pfI, of22]) ?_
    have e : ¬ b ≤ (a : Int) := by omega
    simp only [RSd.down, leq_int, e, decide_false]
    exact hQ h out _ _ _ _ _ _ H
  | succ f ih =>
    intro b L h out y1 y3 y6 y7 y8 hb hb2 H hn hQ
    refine WK_loop' (by dsimp only [pfI, of22]) ?_
    have e : b ≤ (a : Int) := by omega
    have hbb := mul_le_abs (x := b) (y := b) (X := 60) (Y := 60) (by omega) (by omega) (by omega) (by omega)
    have hb0 : 0 ≤ b * b := by
      have : ((b.natAbs * b.natAbs : Nat) : Int) = b * b := Int.natAbs_mul_self
      omega
    have hlen := itemL_len d a b
    have hrec : ∀ (h' : AHeap) (out' z1 z3 z6 z7 z8 : AV), LI h0 h' out' (L ++ itemL d a b) → WK (lim otab.get L8) (.loop pfI) K ⟨[.int .i64 d, z1, .int .i64 (b + 1), z3, .int .i64 (a : Int), out', z6, z7, z8], h'⟩ Q := by
      intro h' out' z1 z3 z6 z7 z8 H'
      exact ih (b + 1) (L ++ itemL d a b) h' out' z1 z3 z6 z7 z8 (by omega) (by omega) H' (by rw [List.length_append]; omega) hQ
    by_cases e8 : (b * b - d) % (4 * (a : Int)) = 0
    · have hq0 : 0 ≤ (b * b - d) / (4 * (a : Int)) := Int.ediv_nonneg (by omega) (by omega)
      have hq1 : (b * b - d) / (4 * (a : Int)) ≤ b * b - d := Int.ediv_le_self _ (by omega)
      have e9 : ¬ (b * b - d) % (4 * (a : Int)) ≠ 0 := fun x => x e8
      simp (disch := omega) only [RSd.down, leq_int, e, decide_true, mul_i64, sub_i64, rem_pos, neq_int, e9, decide_false, quo_pos]
      generalize hq : (b * b - d) / (4 * (a : Int)) = q at hq0 hq1
      rw [build3q (a := (a : Int)) (b := b) (c := q) rfl rfl rfl]
      have ma : mid (a : Int) := mid_of (by omega) (by omega)
      have mb : mid b := mid_of (by omega) (by omega)
      have mq : mid q := mid_of (by omega) (by omega)
      have mg : mid ((Int.gcd (a : Int) b : Nat) : Int) := gcd_mid (by omega) (by omega) (by omega)
      have stv := stV3 (h := h.push (.cells [.int .i64 0, .int .i64 0, .int .i64 0] true)) (i := h.next) (x := .int .i64 (a : Int)) (y := .int .i64 b) (z := .int .i64 q) (AHeap.get_push_same h _) rfl rfl rfl
      by_cases hr : isRed ((a : Int), b, q)
      · by_cases hg : g3 a b q = 1
        · have hi : itemL d a b = [((a : Int), b, q)] := by unfold itemL; rw [if_pos e8, hq, if_pos ⟨hr, hg⟩]
          have hg' : ((g3 a b q : Nat) : Int) = 1 := by omega
          obtain ⟨b', h', ea, H'⟩ := (H.set (.cells [.int .i64 0, .int .i64 0, .int .i64 0] true) (.cells (fC a b q) true)).app ((a : Int), b, q) (by omega)
          simp only [RSd.down, evalA_alR, evalE_store, stv, WDs_load, DGs, DG_tt, WDs_faddr, WDs_pick, WDV_succ, WDE_some, checks, lower, recheck, AOp.cls, AV.beq_refl, cond_true, true_and, ldsS, lds0, lds1, lds2, evalQ_faddr, faddrV_0, faddrV_1, faddrV_2, c_qred8 ma mb mq, hr, decide_true, c_gcd8 ma mb, c_gcd8 mg mq, gcd2, eql_int, hg']
          rw [bslice3f (f := ((a : Int), b, q)) rfl]
          simp only [RSd.down, ea]
          simp (disch := omega) only [RSd.down, add_i64]
          rw [hi] at hrec
          exact hrec _ _ _ _ _ _ _ H'
        · have hi : itemL d a b = [] := by unfold itemL; rw [if_pos e8, hq, if_neg (fun x => hg x.2)]
          have hg' : ¬ ((g3 a b q : Nat) : Int) = 1 := by omega
          simp (disch := omega) only [RSd.down, evalA_alR, evalE_store, stv, WDs_load, DGs, DG_tt, WDs_faddr, WDs_pick, WDV_succ, WDE_some, checks, lower, recheck, AOp.cls, AV.beq_refl, cond_true, true_and, ldsS, lds0, lds1, lds2, evalQ_faddr, faddrV_0, faddrV_1, faddrV_2, c_qred8 ma mb mq, hr, decide_true, c_gcd8 ma mb, c_gcd8 mg mq, gcd2, eql_int, hg', decide_false, add_i64]
          rw [hi, List.append_nil] at hrec
          exact hrec _ _ _ _ _ _ _ (H.set _ _)
      · have hi : itemL d a b = [] := by unfold itemL; rw [if_pos e8, hq, if_neg (fun x => hr x.1)]
        simp (disch := omega) only [RSd.down, evalA_alR, evalE_store, stv, WDs_load, DGs, DG_ft, dgLow, WDs_faddr, WDs_pick, WDV_succ, WDE_some, checks, lower, recheck, AOp.cls, AV.beq_refl, cond_true, true_and, ldsS, lds0, lds1, lds2, evalQ_faddr, faddrV_0, faddrV_1, faddrV_2, c_qred8 ma mb mq, hr, decide_false, add_i64]
        rw [hi, List.append_nil] at hrec
        exact hrec _ _ _ _ _ _ _ (H.set _ _)
    · have hi : itemL d a b = [] := by unfold itemL; rw [if_neg e8]
      have e9 : ((b * b - d) % (4 * (a : Int)) ≠ 0) = True := eq_true e8
      simp (disch := omega) only [RSd.down, leq_int, e, decide_true, mul_i64, sub_i64, rem_pos, neq_int, e9, add_i64]
      rw [hi, List.append_nil] at hrec
      exact hrec _ _ _ _ _ _ _ H
theorem pfO_loop {d : Int} {h0 : AHeap} (d1 : -10000 ≤ d) (d2 : d < 0) : ∀ (f a : Nat) (L : List F3) (h : AHeap) (out y1 y2 y3 y6 y7 y8 : AV), a + f = 61 → 1 ≤ a → LI h0 h out L → L.length ≤ 200 * a →
    (∀ (h' : AHeap) (out' z1 z2 z3 z4 z6 z7 z8 : AV), LI h0 h' out' (lstF d f a L) → WX (lim otab.get L8) (.exit 0) K ⟨[.int .i64 d, z1, z2, z3, z4, out', z6, z7, z8], h'⟩ Q) →
    WK (lim otab.get L8) (.loop pfO) K ⟨[.int .i64 d, y1, y2, y3, .int .i64 (a : Int), out, y6, y7, y8], h⟩ Q := by
  intro f
  induction f with
  | zero =>
    intro a L h out y1 y2 y3 y6 y7 y8 hf ha H hn hQ
    refine WK_loop' (by dsimp only [pfO, of22]) ?_
    have ha2 : a = 61 := by omega
    subst ha2
    have e1 : 3 * ((61 : Nat) : Int) * ((61 : Nat) : Int) = 11163 := by decide
    have e : ¬ (11163 : Int) ≤ -d := by omega
    simp (disch := omega) only [RSd.down, mul_i64, e1, neg_i64, leq_int, e, decide_false]
    exact hQ h out _ _ _ _ _ _ _ H
  | succ f ih =>
    intro a L h out y1 y2 y3 y6 y7 y8 hf ha H hn hQ
    refine WK_loop' (by dsimp only [pfO, of22]) ?_
    have e1 : 3 * (a : Int) * (a : Int) = ((3 * a * a : Nat) : Int) := by simp
    have hb : 3 * a * a ≤ 3 * 60 * 60 := Nat.mul_le_mul (by omega) (by omega)
    unfold lstF at hQ
    by_cases e : 3 * a * a ≤ (-d).toNat
    · rw [if_pos e] at hQ
      have e2 : ((3 * a * a : Nat) : Int) ≤ -d := by omega
      simp (disch := omega) only [RSd.down, mul_i64, e1, neg_i64, leq_int, e2, decide_true]
      refine pfI_loop d1 d2 ha (by omega) (2 * a + 1) (-(a : Int)) L h out _ _ _ _ _ (by omega) (by omega) H (by omega) ?_
      intro h' out' z1 z2 z3 z6 z7 z8 H'
      simp (disch := omega) only [RSd.down, add_i64, show (a : Int) + 1 = ((a + 1 : Nat) : Int) from rfl]
      exact ih (a + 1) _ h' out' _ _ _ _ _ _ (by omega) (by omega) H' (Nat.le_trans (rowF_len d a _ _ _) (by omega)) hQ
    · rw [if_neg e] at hQ
      have e2 : ¬ ((3 * a * a : Nat) : Int) ≤ -d := by omega
      simp (disch := omega) only [RSd.down, mul_i64, e1, neg_i64, leq_int, e2, decide_false]
      exact hQ h out _ _ _ _ _ _ _ H
noncomputable def rfI : ACode := match of24.body with | .seq _ (.seq _ (.seq (.seq _ (.block _ (.loop (.seq _ (.seq (.block _ (.seq _ (.block _ (.loop b)))) _))))) _)) => b | c => c
noncomputable def rfO : ACode := match of24.body with | .seq _ (.seq _ (.seq (.seq _ (.block _ (.loop b))) _)) => b | c => c
theorem rfI_loop {d : Int} {a : Nat} {h0 : AHeap} (d1 : -10000 ≤ d) (d2 : d < 0) (a1 : 1 ≤ a) (a2 : a ≤ 60) : ∀ (f : Nat) (b : Int) (L : List F3) (h : AHeap) (out y1 y3 y6 y7 y8 : AV), b + f = a + 1 → -(a : Int) ≤ b → LI h0 h out L → L.length + f ≤ 100000 →
    (∀ (h' : AHeap) (out' z1 z2 z3 z6 z7 z8 : AV), LI h0 h' out' (rowF d a f b L) → WX (lim otab.get L8) (.exit 2) K ⟨[.int .i64 d, z1, z2, z3, .int .i64 (a : Int), out', z6, z7, z8], h'⟩ Q) →
    WK (lim otab.get L8) (.loop rfI) K ⟨[.int .i64 d, y1, .int .i64 b, y3, .int .i64 (a : Int), out, y6, y7, y8], h⟩ Q := by
  intro f
  induction f with
  | zero =>
    intro b L h out y1 y3 y6 y7 y8 hb hb2 H hn hQ
    refine WK_loop' (by dsimp only [rfI, of24]) ?_
    have e : ¬ b ≤ (a : Int) := by omega
    simp only [RSd.down, leq_int, e, decide_false]
    exact hQ h out _ _ _ _ _ _ H
  | succ f ih =>
    intro b L h out y1 y3 y6 y7 y8 hb hb2 H hn hQ
    refine WK_loop' (by dsimp only [rfI, of24]) ?_
    have e : b ≤ (a : Int) := by omega
    have hbb := mul_le_abs (x := b) (y := b) (X := 60) (Y := 60) (by omega) (by omega) (by omega) (by omega)
    have hb0 : 0 ≤ b * b := by
      have : ((b.natAbs * b.natAbs : Nat) : Int) = b * b := Int.natAbs_mul_self
      omega
    have hlen := itemL_len d a b
    have hrec : ∀ (h' : AHeap) (out' z1 z3 z6 z7 z8 : AV), LI h0 h' out' (L ++ itemL d a b) → WK (lim otab.get L8) (.loop rfI) K ⟨[.int .i64 d, z1, .int .i64 (b + 1), z3, .int .i64 (a : Int), out', z6, z7, z8], h'⟩ Q := by
      intro h' out' z1 z3 z6 z7 z8 H'
      exact ih (b + 1) (L ++ itemL d a b) h' out' z1 z3 z6 z7 z8 (by omega) (by omega) H' (by rw [List.length_append]; omega) hQ
    by_cases e8 : (b * b - d) % (4 * (a : Int)) = 0
    · have hq0 : 0 ≤ (b * b - d) / (4 * (a : Int)) := Int.ediv_nonneg (by omega) (by omega)
      have hq1 : (b * b - d) / (4 * (a : Int)) ≤ b * b - d := Int.ediv_le_self _ (by omega)
      have e9 : ¬ (b * b - d) % (4 * (a : Int)) ≠ 0 := fun x => x e8
      simp (disch := omega) only [RSd.down, leq_int, e, decide_true, mul_i64, sub_i64, rem_pos, neq_int, e9, decide_false, quo_pos]
      generalize hq : (b * b - d) / (4 * (a : Int)) = q at hq0 hq1
      rw [build3q (a := (a : Int)) (b := b) (c := q) rfl rfl rfl]
      have ma : mid (a : Int) := mid_of (by omega) (by omega)
      have mb : mid b := mid_of (by omega) (by omega)
      have mq : mid q := mid_of (by omega) (by omega)
      have mg : mid ((Int.gcd (a : Int) b : Nat) : Int) := gcd_mid (by omega) (by omega) (by omega)
      have stv := stV3 (h := h.push (.cells [.int .i64 0, .int .i64 0, .int .i64 0] true)) (i := h.next) (x := .int .i64 (a : Int)) (y := .int .i64 b) (z := .int .i64 q) (AHeap.get_push_same h _) rfl rfl rfl
      by_cases hr : isRed ((a : Int), b, q)
      · by_cases hg : g3 a b q = 1
        · have hi : itemL d a b = [((a : Int), b, q)] := by unfold itemL; rw [if_pos e8, hq, if_pos ⟨hr, hg⟩]
          have hg' : ((g3 a b q : Nat) : Int) = 1 := by omega
          obtain ⟨b', h', ea, H'⟩ := (H.set (.cells [.int .i64 0, .int .i64 0, .int .i64 0] true) (.cells (fC a b q) true)).app ((a : Int), b, q) (by omega)
          simp only [RSd.down, evalA_alR, evalE_store, stv, WOs_faddr, ldsS, lds0, lds1, lds2, evalQ_faddr, faddrV_0, faddrV_1, faddrV_2, c_rred8 ma mb mq, hr, decide_true, c_rg38 ma mb mq, eql_int, hg']
          rw [bslice3f (f := ((a : Int), b, q)) rfl]
          simp only [RSd.down, ea]
          simp (disch := omega) only [RSd.down, add_i64]
          rw [hi] at hrec
          exact hrec _ _ _ _ _ _ _ H'
        · have hi : itemL d a b = [] := by unfold itemL; rw [if_pos e8, hq, if_neg (fun x => hg x.2)]
          have hg' : ¬ ((g3 a b q : Nat) : Int) = 1 := by omega
          simp (disch := omega) only [RSd.down, evalA_alR, evalE_store, stv, WOs_faddr, ldsS, lds0, lds1, lds2, evalQ_faddr, faddrV_0, faddrV_1, faddrV_2, c_rred8 ma mb mq, hr, decide_true, c_rg38 ma mb mq, eql_int, hg', decide_false, add_i64]
          rw [hi, List.append_nil] at hrec
          exact hrec _ _ _ _ _ _ _ (H.set _ _)
      · have hi : itemL d a b = [] := by unfold itemL; rw [if_pos e8, hq, if_neg (fun x => hr x.1)]
        simp (disch := omega) only [RSd.down, evalA_alR, evalE_store, stv, WOs_faddr, ldsS, lds0, lds1, lds2, evalQ_faddr, faddrV_0, faddrV_1, faddrV_2, c_rred8 ma mb mq, hr, decide_false, add_i64]
        rw [hi, List.append_nil] at hrec
        exact hrec _ _ _ _ _ _ _ (H.set _ _)
    · have hi : itemL d a b = [] := by unfold itemL; rw [if_neg e8]
      have e9 : ((b * b - d) % (4 * (a : Int)) ≠ 0) = True := eq_true e8
      simp (disch := omega) only [RSd.down, leq_int, e, decide_true, mul_i64, sub_i64, rem_pos, neq_int, e9, add_i64]
      rw [hi, List.append_nil] at hrec
      exact hrec _ _ _ _ _ _ _ H
theorem rfO_loop {d : Int} {h0 : AHeap} (d1 : -10000 ≤ d) (d2 : d < 0) : ∀ (f a : Nat) (L : List F3) (h : AHeap) (out y1 y2 y3 y6 y7 y8 : AV), a + f = 61 → 1 ≤ a → LI h0 h out L → L.length ≤ 200 * a →
    (∀ (h' : AHeap) (out' z1 z2 z3 z4 z6 z7 z8 : AV), LI h0 h' out' (lstF d f a L) → WX (lim otab.get L8) (.exit 0) K ⟨[.int .i64 d, z1, z2, z3, z4, out', z6, z7, z8], h'⟩ Q) →
    WK (lim otab.get L8) (.loop rfO) K ⟨[.int .i64 d, y1, y2, y3, .int .i64 (a : Int), out, y6, y7, y8], h⟩ Q := by
  intro f
  induction f with
  | zero =>
    intro a L h out y1 y2 y3 y6 y7 y8 hf ha H hn hQ
    refine WK_loop' (by dsimp only [rfO, of24]) ?_
    have ha2 : a = 61 := by omega
    subst ha2
    have e1 : 3 * ((61 : Nat) : Int) * ((61 : Nat) : Int) = 11163 := by decide
    have e : ¬ (11163 : Int) ≤ -d := by omega
    simp (disch := omega) only [RSd.down, mul_i64, e1, neg_i64, leq_int, e, decide_false]
    exact hQ h out _ _ _ _ _ _ _ H
  | succ f ih =>
    intro a L h out y1 y2 y3 y6 y7 y8 hf ha H hn hQ
    refine WK_loop' (by dsimp only [rfO, of24]) ?_
    have e1 : 3 * (a : Int) * (a : Int) = ((3 * a * a : Nat) : Int) := by simp
    have hb : 3 * a * a ≤ 3 * 60 * 60 := Nat.mul_le_mul (by omega) (by omega)
    unfold lstF at hQ
    by_cases e : 3 * a * a ≤ (-d).toNat
    · rw [if_pos e] at hQ
      have e2 : ((3 * a * a : Nat) : Int) ≤ -d := by omega
      simp (disch := omega) only [RSd.down, mul_i64, e1, neg_i64, leq_int, e2, decide_true]
      refine rfI_loop d1 d2 ha (by omega) (2 * a + 1) (-(a : Int)) L h out _ _ _ _ _ (by omega) (by omega) H (by omega) ?_
      intro h' out' z1 z2 z3 z6 z7 z8 H'
      simp (disch := omega) only [RSd.down, add_i64, show (a : Int) + 1 = ((a + 1 : Nat) : Int) from rfl]
      exact ih (a + 1) _ h' out' _ _ _ _ _ _ (by omega) (by omega) H' (Nat.le_trans (rowF_len d a _ _ _) (by omega)) hQ
    · rw [if_neg e] at hQ
      have e2 : ¬ ((3 * a * a : Nat) : Int) ≤ -d := by omega
      simp (disch := omega) only [RSd.down, mul_i64, e1, neg_i64, leq_int, e2, decide_false]
      exact hQ h out _ _ _ _ _ _ _ H
end
end Go.AM
namespace Go.AM
open Go
noncomputable def cV (C : CallT) (f : AV) (args : List AV) (h : AHeap) : Option (AV × AHeap) := evalE (.call (.lit f) (args.map .lit)) C [] h
theorem evs_lits' : ∀ (args : List AV) (tm : List AV), evs tm (args.map .lit) = args
  | [], _ => rfl
  | x :: r, tm => by show x :: evs tm (r.map .lit) = _; rw [evs_lits' r]
theorem evalE_ct {C : CallT} {tm : List AV} {h : AHeap} (t : Nat) (args : List AOpd) : evalE (.call (.tmp t) args) C tm h = cV C (nth tm t) (evs tm args) h := by
  unfold cV; simp only [evalE, evs_lits', ev_tmp, ev_lit]
theorem cV_fn {C : CallT} {g : Nat} {args : List AV} {h : AHeap} : cV C (.fn (.func g) [] []) args h = C (.fn g) args h := by
  unfold cV; simp only [evalE, evs_lits', ev_lit, List.nil_append, List.append_nil]
theorem cut_flat : ∀ (L : List F3) (k : Nat) (hk : k < L.length), cut (flat3 L) (k * 3) 3 = some (fCq L[k])
  | f :: r, 0, _ => by
    show cut (fCq f ++ flat3 r) 0 3 = _
    show cut (.int .i64 f.1 :: .int .i64 f.2.1 :: .int .i64 f.2.2 :: flat3 r) 0 3 = _
    rw [cut_cons, cut_cons, cut_cons, cut_zero]; rfl
  | f :: r, k + 1, hk => by
    show cut (.int .i64 f.1 :: .int .i64 f.2.1 :: .int .i64 f.2.2 :: flat3 r) ((k + 1) * 3) 3 = _
    rw [show (k + 1) * 3 = k * 3 + 1 + 1 + 1 by omega, cut_succ, cut_succ, cut_succ]
    exact cut_flat r k (by simpa using hk)
theorem ldE {h : AHeap} {j : Nat} {L : List F3} (hc : cellsOf h j = some (flat3 L)) {k : Nat} (hk : k < L.length) : loadV (some 3) (.ptr j (0 + k * 3)) h = some (fVq L[k]) := by
  show (match cellsOf h j with | some c => fit (some 3) (0 + k * 3) c | none => none) = _
  rw [hc, Nat.zero_add]
  show (match cut (flat3 L) (k * 3) 3 with | some r => some (AV.agg r) | none => none) = _
  rw [cut_flat L k hk]
/-- in order, and within bounds -/
structure Srt (L : List F3) : Prop where
  le : ∀ i j (hi : i < j) (hj : j < L.length), 0 ≤ cmpV L[j] (L[i]'(by omega))
  mid : ∀ i (hi : i < L.length), AM.mid L[i].1 ∧ AM.mid L[i].2.1 ∧ AM.mid L[i].2.2
  n : L.length ≤ 50000
section
variable {h : AHeap} {j : Nat} {L : List F3} {K : List Fr} {Q : AX → St → Prop}
theorem c_cmp {h : AHeap} (S : Srt L) {i k : Nat} (hi : i < L.length) (hk : k < L.length) : lim otab.get L8 (.fn 57) [fVq L[i], fVq L[k]] h = some (.int .i64 (cmpV L[i] L[k]), h) := by
  obtain ⟨a1, a2, a3⟩ := S.mid i hi
  obtain ⟨b1, b2, b3⟩ := S.mid k hk
  exact lim_oracle (or_hit (spec := cmpS) (if_pos ⟨a1, a2, a3, b1, b2, b3⟩))
abbrev sV (j n : Nat) : AV := .slice j 0 n (.opn 3)
abbrev cmpF : AV := .fn (.func 57) [] []
theorem order2_spec (S : Srt L) (hc : cellsOf h j = some (flat3 L)) {a b : Nat} (hab : a < b) (hb : b < L.length) (p : AV) : lim otab.get L8 (.fn 121) [sV j L.length, .int .i64 (a : Int), .int .i64 (b : Int), p, cmpF] h = some (.tup [.int .i64 (a : Int), .int .i64 (b : Int)], h) := by
  refine runH (fn := of121) rfl rfl ?_
  show WK _ _ [] ⟨[sV j L.length, .int .i64 (a : Int), .int .i64 (b : Int), p, cmpF, aundef, aundef], h⟩ _
  dsimp only [of121]
  have e : ¬ cmpV L[b] L[a] < 0 := by have := S.le a b hab hb; omega
  simp (disch := omega) only [RSd.down, WDs_iaddr, WDs_load, iaddrV_ok, ldE hc hb, ldE hc (show a < L.length by omega), evalE_ct, cV_fn, c_cmp S hb (show a < L.length by omega), lss_int, e, decide_false, RetH_ret, result_2, and_self]
theorem median_spec (S : Srt L) (hc : cellsOf h j = some (flat3 L)) {a b c : Nat} (hab : a < b) (hbc : b < c) (hb : c < L.length) (p : AV) : lim otab.get L8 (.fn 117) [sV j L.length, .int .i64 (a : Int), .int .i64 (b : Int), .int .i64 (c : Int), p, cmpF] h = some (.int .i64 (b : Int), h) := by
  refine runH (fn := of117) rfl rfl ?_
  show WK _ _ [] ⟨[sV j L.length, .int .i64 (a : Int), .int .i64 (b : Int), .int .i64 (c : Int), p, cmpF, aundef], h⟩ _
  dsimp only [of117]
  simp only [RSd.down, order2_spec S hc hab (show b < L.length by omega), order2_spec S hc hbc hb, RetH_ret, result_1, and_self]
theorem medianAdj_spec (S : Srt L) (hc : cellsOf h j = some (flat3 L)) {a : Nat} (h1 : 1 ≤ a) (hb : a + 1 < L.length) (p : AV) : lim otab.get L8 (.fn 116) [sV j L.length, .int .i64 (a : Int), p, cmpF] h = some (.int .i64 (a : Int), h) := by
  refine runH (fn := of116) rfl rfl ?_
  show WK _ _ [] ⟨[sV j L.length, .int .i64 (a : Int), p, cmpF, aundef, aundef], h⟩ _
  dsimp only [of116]
  have hn := S.n
  have e1 : (a : Int) - 1 = ((a - 1 : Nat) : Int) := by omega
  have e2 : (a : Int) + 1 = ((a + 1 : Nat) : Int) := by omega
  simp (disch := omega) only [RSd.down, sub_i64, add_i64, e1, e2, median_spec S hc (show a - 1 < a by omega) (show a < a + 1 by omega) hb, RetH_ret, result_1, and_self]
theorem pivot_spec (S : Srt L) (hj : j < h.next) (hc : cellsOf h j = some (flat3 L)) (h13 : 13 ≤ L.length) : ∃ v : Int, lim otab.get L8 (.fn 97) [sV j L.length, .int .i64 0, .int .i64 (L.length : Int), cmpF] h = some (.tup [.int .i64 v, .int .i64 1], h.push (.cells [.int .i64 0] true)) := by
  refine ⟨((L.length / 4 * 2 : Nat) : Int), ?_⟩
  refine runH (fn := of97) rfl rfl ?_
  have hn := S.n
  generalize hs : sV j L.length = s
  generalize hm : L.length = n at *
  show WK _ _ [] ⟨(s :: .int .i64 0 :: .int .i64 (n : Int) :: .fn (.func 57) [] [] :: aundef :: aundef :: aundef :: aundef :: aundef :: aundef :: aundef :: aundef :: aundef :: aundef :: aundef :: aundef :: aundef :: aundef :: aundef :: aundef :: aundef :: aundef :: aundef :: aundef :: aundef :: aundef :: aundef :: aundef :: aundef :: aundef :: aundef :: aundef :: aundef :: aundef :: aundef :: aundef :: aundef :: aundef :: aundef :: aundef :: aundef :: aundef :: aundef :: aundef :: aundef :: aundef :: aundef :: aundef :: aundef :: aundef :: aundef :: aundef :: aundef :: aundef :: aundef :: aundef :: aundef :: aundef :: aundef :: aundef :: aundef :: aundef :: aundef :: []), h⟩ _
  dsimp only [of97, af97, Z.t, Z.f, Z.i, Z.q, Z.m, Z.l, Z.b, Z.c]
  subst hs
  have hc1 : cellsOf (h.push (.cells [.int .i64 0] true)) j = some (flat3 L) := by rw [cellsOf_push_ne hj]; exact hc
  have q0 : (n : Int) - 0 = (n : Int) := by omega
  have q1 : (n : Int) / 4 = ((n / 4 : Nat) : Int) := by omega
  have q2 : ((n / 4 : Nat) : Int) * 1 = ((n / 4 : Nat) : Int) := by omega
  have q3 : ((n / 4 : Nat) : Int) * 2 = ((n / 4 * 2 : Nat) : Int) := by omega
  have q4 : ((n / 4 : Nat) : Int) * 3 = ((n / 4 * 3 : Nat) : Int) := by omega
  have q5 : (8 : Int) ≤ (n : Int) := by omega
  have q6 : ∀ x : Nat, (0 : Int) + (x : Int) = (x : Int) := by intro x; omega
  have sl : ∀ m, m = n → sV j m = sV j L.length := by intro m e; rw [e, hm]
  have lsw : loadV none (.ptr h.next 0) (h.push (.cells [.int .i64 0] true)) = some (.int .i64 0) := loadV_at cellsOf_push rfl
  have md := median_spec S hc1 (a := n / 4) (b := n / 4 * 2) (c := n / 4 * 3) (by omega) (by omega) (by omega) (.ptr h.next 0)
  have m1 := medianAdj_spec S hc1 (a := n / 4) (by omega) (by omega) (.ptr h.next 0)
  have m2 := medianAdj_spec S hc1 (a := n / 4 * 2) (by omega) (by omega) (.ptr h.next 0)
  have m3 := medianAdj_spec S hc1 (a := n / 4 * 3) (by omega) (by omega) (.ptr h.next 0)
  rw [hm] at md m1 m2 m3
  by_cases e50 : (50 : Int) ≤ (n : Int)
  · simp (disch := omega) only [RSd.down, sub_i64, q0, evalA_alR, quo_pos, q1, mul_i64, q2, q3, q4, add_i64, q6, geq_int, q5, e50, decide_true, m1, m2, m3, md, lsw, eql_int, RetH_ret, result_2, and_self]
  · simp (disch := omega) only [RSd.down, sub_i64, q0, evalA_alR, quo_pos, q1, mul_i64, q2, q3, q4, add_i64, q6, geq_int, q5, e50, decide_true, decide_false, md, lsw, eql_int, RetH_ret, result_2, and_self]
noncomputable def insB : ACode := match of94.body with | .seq _ (.block _ (.loop b)) => b | c => c
theorem ins_loop (S : Srt L) (hc : cellsOf h j = some (flat3 L)) : ∀ (f i : Nat) (y4 y5 y6 y7 y8 y9 : AV), i + f = L.length → 1 ≤ i →
    (∀ z4 z5 z6 z7 z8 z9 z10 : AV, WX (lim otab.get L8) (.exit 0) K ⟨[sV j L.length, .int .i64 0, .int .i64 (L.length : Int), cmpF, z4, z5, z6, z7, z8, z9, z10], h⟩ Q) →
    WK (lim otab.get L8) (.loop insB) K ⟨[sV j L.length, .int .i64 0, .int .i64 (L.length : Int), cmpF, y4, y5, y6, y7, y8, y9, .int .i64 (i : Int)], h⟩ Q := by
  intro f
  have hn := S.n
  induction f with
  | zero =>
    intro i y4 y5 y6 y7 y8 y9 hf hi hQ
    refine WK_loop' (by dsimp only [insB, of94]) ?_
    have e : ¬ (i : Int) < (L.length : Int) := by omega
    simp only [RSd.down, lss_int, e, decide_false]
    exact hQ _ _ _ _ _ _ _
  | succ f ih =>
    intro i y4 y5 y6 y7 y8 y9 hf hi hQ
    refine WK_loop' (by dsimp only [insB, of94]) ?_
    have e : (i : Int) < (L.length : Int) := by omega
    have e0 : (0 : Int) < (i : Int) := by omega
    have hi2 : i < L.length := by omega
    have e1 : (i : Int) - 1 = ((i - 1 : Nat) : Int) := by omega
    have e2 : ¬ cmpV L[i] L[i - 1] < 0 := by have := S.le (i - 1) i (by omega) hi2; omega
    simp only [RSd.down, lss_int, e, decide_true]
    refine WK_loop ?_
    simp (disch := omega) only [RSd.down, WDs_iaddr, WDs_load, WDs_pick, DGs, DG_tt, gtr_int, lss_int, e0, decide_true, iaddrV_ok, ldE hc hi2, ldE hc (show i - 1 < L.length by omega), sub_i64, e1, evalE_ct, cV_fn, c_cmp S hi2 (show i - 1 < L.length by omega), e2, decide_false, WX_block_ne, add_i64, show (i : Int) + 1 = ((i + 1 : Nat) : Int) from rfl]
    exact ih (i + 1) _ _ _ _ _ _ (by omega) (by omega) hQ
theorem RetH_normal {rs : List ARes} {av : AV} {h : AHeap} {s : St} : RetH rs av h .normal s ↔ result rs s.tm s.h = some av ∧ s.h = h := ⟨fun h => h.2, fun h => ⟨(fun i hi => by cases hi), h⟩⟩
theorem result_0 {tm : List AV} {h : AHeap} : result [] tm h = some (.tup []) := rfl
theorem ins_spec (S : Srt L) (hc : cellsOf h j = some (flat3 L)) (h1 : 1 ≤ L.length) : lim otab.get L8 (.fn 94) [sV j L.length, .int .i64 0, .int .i64 (L.length : Int), cmpF] h = some (.tup [], h) := by
  refine runH (fn := of94) rfl rfl ?_
  show WK _ _ [] ⟨[sV j L.length, .int .i64 0, .int .i64 (L.length : Int), cmpF, aundef, aundef, aundef, aundef, aundef, aundef, aundef], h⟩ _
  dsimp only [of94]
  simp (disch := omega) only [RSd.down, add_i64]
  refine ins_loop S hc (L.length - 1) 1 _ _ _ _ _ _ (by omega) (by omega) fun z4 z5 z6 z7 z8 z9 z10 => ?_
  simp only [RSd.down, RetH_normal, result_0, and_self]
noncomputable def parB : ACode := match of99.body with | .seq _ (.seq _ (.seq (.seq _ (.block _ (.loop (.seq _ (.seq (.block _ (.seq (.block _ (.loop b)) _)) _))))) _)) => b | c => c
theorem par_loop (S : Srt L) (hc : cellsOf h j = some (flat3 L)) : ∀ (f i : Nat) (y4 y6 y7 y8 y9 y10 : AV), i + f = L.length → 1 ≤ i →
    (∀ z4 z6 z7 z8 z9 : AV, WX (lim otab.get L8) (.exit 2) K ⟨[sV j L.length, .int .i64 0, .int .i64 (L.length : Int), cmpF, z4, .int .i64 (L.length : Int), z6, z7, z8, z9, y10], h⟩ Q) →
    WK (lim otab.get L8) (.loop parB) K ⟨[sV j L.length, .int .i64 0, .int .i64 (L.length : Int), cmpF, y4, .int .i64 (i : Int), y6, y7, y8, y9, y10], h⟩ Q := by
  intro f
  have hn := S.n
  induction f with
  | zero =>
    intro i y4 y6 y7 y8 y9 y10 hf hi hQ
    refine WK_loop' (by dsimp only [parB, of99]) ?_
    have hi2 : i = L.length := by omega
    subst hi2
    have e : ¬ ((L.length : Nat) : Int) < (L.length : Int) := by omega
    simp only [RSd.down, DGs, DG_ft, dgLow, AOp.cls, lower, WDs_pick, lss_int, e, decide_false]
    exact hQ _ _ _ _ _
  | succ f ih =>
    intro i y4 y6 y7 y8 y9 y10 hf hi hQ
    refine WK_loop' (by dsimp only [parB, of99]) ?_
    have e : (i : Int) < (L.length : Int) := by omega
    have hi2 : i < L.length := by omega
    have e1 : (i : Int) - 1 = ((i - 1 : Nat) : Int) := by omega
    have e2 : ¬ cmpV L[i] L[i - 1] < 0 := by have := S.le (i - 1) i (by omega) hi2; omega
    simp (disch := omega) only [RSd.down, WDs_iaddr, WDs_load, WDs_pick, WDs_un, DGs, DG_tt, lss_int, e, decide_true, iaddrV_ok, ldE hc hi2, ldE hc (show i - 1 < L.length by omega), sub_i64, e1, evalE_ct, cV_fn, c_cmp S hi2 (show i - 1 < L.length by omega), e2, decide_false, not_bool, Bool.not_false, add_i64, show (i : Int) + 1 = ((i + 1 : Nat) : Int) from rfl]
    exact ih (i + 1) _ _ _ _ _ _ (by omega) (by omega) hQ
theorem par_spec (S : Srt L) (hc : cellsOf h j = some (flat3 L)) (h1 : 1 ≤ L.length) : lim otab.get L8 (.fn 99) [sV j L.length, .int .i64 0, .int .i64 (L.length : Int), cmpF] h = some (.bool true, h) := by
  refine runH (fn := of99) rfl rfl ?_
  show WK _ _ [] ⟨[sV j L.length, .int .i64 0, .int .i64 (L.length : Int), cmpF, aundef, aundef, aundef, aundef, aundef, aundef, aundef], h⟩ _
  dsimp only [of99]
  simp (disch := omega) only [RSd.down, add_i64]
  refine WK_loop ?_
  simp only [RSd.down, lss_int, show decide ((0 : Int) < 5) = true from rfl]
  refine par_loop S hc (L.length - 1) 1 _ _ _ _ _ _ (by omega) (by omega) fun z4 z6 z7 z8 z9 => ?_
  simp only [RSd.down, eql_int, decide_true, RetH_ret, result_1, and_self]
end
end Go.AM
namespace Go.AM
open Go
theorem toIntV_u64 {k : IntKind} {n : Nat} (h2 : n ≤ 9223372036854775807) : toIntV .u64 (.int k (n : Int)) = some (.int .u64 (n : Int)) := by
  show some (AV.int .u64 ((n : Int) % 18446744073709551616)) = _
  rw [Int.emod_eq_of_lt (by omega) (by omega)]
def lenT : List Nat := [0, 1, 2, 2, 3, 3, 3, 3, 4, 4, 4, 4, 4, 4, 4, 4, 5, 5, 5, 5, 5, 5, 5, 5, 5, 5, 5, 5, 5, 5, 5, 5, 6, 6, 6, 6, 6, 6, 6, 6, 6, 6, 6, 6, 6, 6, 6, 6, 6, 6, 6, 6, 6, 6, 6, 6, 6, 6, 6, 6, 6, 6, 6, 6, 7, 7, 7, 7, 7, 7, 7, 7, 7, 7, 7, 7, 7, 7, 7, 7, 7, 7, 7, 7, 7, 7, 7, 7, 7, 7, 7, 7, 7, 7, 7, 7, 7, 7, 7, 7, 7, 7, 7, 7, 7, 7, 7, 7, 7, 7, 7, 7, 7, 7, 7, 7, 7, 7, 7, 7, 7, 7, 7, 7, 7, 7, 7, 7, 8, 8, 8, 8, 8, 8, 8, 8, 8, 8, 8, 8, 8, 8, 8, 8, 8, 8, 8, 8, 8, 8, 8, 8, 8, 8, 8, 8, 8, 8, 8, 8, 8, 8, 8, 8, 8, 8, 8, 8, 8, 8, 8, 8, 8, 8, 8, 8, 8, 8, 8, 8, 8, 8, 8, 8, 8, 8, 8, 8, 8, 8, 8, 8, 8, 8, 8, 8, 8, 8, 8, 8, 8, 8, 8, 8, 8, 8, 8, 8, 8, 8, 8, 8, 8, 8, 8, 8, 8, 8, 8, 8, 8, 8, 8, 8, 8, 8, 8, 8, 8, 8, 8, 8, 8, 8, 8, 8, 8, 8, 8, 8, 8, 8, 8, 8, 8, 8, 8, 8, 8, 8, 8, 8, 8, 8, 8, 8]
theorem lenT_fin : ∀ x : Fin 256, (lenT[x.1]?).getD 300 ≤ 8 ∧ (1 ≤ x.1 → 1 ≤ (lenT[x.1]?).getD 300) := by decide
theorem lenT_ok {x : Nat} (hx : x < 256) : ∃ v : Nat, indexSV (.str [0, 1, 2, 2, 3, 3, 3, 3, 4, 4, 4, 4, 4, 4, 4, 4, 5, 5, 5, 5, 5, 5, 5, 5, 5, 5, 5, 5, 5, 5, 5, 5, 6, 6, 6, 6, 6, 6, 6, 6, 6, 6, 6, 6, 6, 6, 6, 6, 6, 6, 6, 6, 6, 6, 6, 6, 6, 6, 6, 6, 6, 6, 6, 6, 7, 7, 7, 7, 7, 7, 7, 7, 7, 7, 7, 7, 7, 7, 7, 7, 7, 7, 7, 7, 7, 7, 7, 7, 7, 7, 7, 7, 7, 7, 7, 7, 7, 7, 7, 7, 7, 7, 7, 7, 7, 7, 7, 7, 7, 7, 7, 7, 7, 7, 7, 7, 7, 7, 7, 7, 7, 7, 7, 7, 7, 7, 7, 7, 8, 8, 8, 8, 8, 8, 8, 8, 8, 8, 8, 8, 8, 8, 8, 8, 8, 8, 8, 8, 8, 8, 8, 8, 8, 8, 8, 8, 8, 8, 8, 8, 8, 8, 8, 8, 8, 8, 8, 8, 8, 8, 8, 8, 8, 8, 8, 8, 8, 8, 8, 8, 8, 8, 8, 8, 8, 8, 8, 8, 8, 8, 8, 8, 8, 8, 8, 8, 8, 8, 8, 8, 8, 8, 8, 8, 8, 8, 8, 8, 8, 8, 8, 8, 8, 8, 8, 8, 8, 8, 8, 8, 8, 8, 8, 8, 8, 8, 8, 8, 8, 8, 8, 8, 8, 8, 8, 8, 8, 8, 8, 8, 8, 8, 8, 8, 8, 8, 8, 8, 8, 8, 8, 8, 8, 8, 8, 8]) (.int .u8 (x : Int)) = some (.int .u8 (v : Int)) ∧ v ≤ 8 ∧ (1 ≤ x → 1 ≤ v) := by
  obtain ⟨h1, h2⟩ := lenT_fin ⟨x, hx⟩
  show ∃ v : Nat, indexSV (.str lenT) (.int .u8 (x : Int)) = some (.int .u8 (v : Int)) ∧ v ≤ 8 ∧ (1 ≤ x → 1 ≤ v)
  have e : indexSV (.str lenT) (.int .u8 (x : Int)) = (match lenT[x]? with | some b => some (.int .u8 b) | none => none) := by
    show (if 0 ≤ (x : Int) then match lenT[(x : Int).toNat]? with | some b => some (AV.int .u8 b) | none => none else none) = _
    rw [if_pos (by omega), Int.toNat_natCast]
  cases hv : lenT[x]? with
  | none => simp only [hv, Option.getD] at h1; omega
  | some b =>
    simp only [hv, Option.getD] at h1 h2
    rw [hv] at e
    exact ⟨b, e, h1, h2⟩
theorem shr_8 {e : EqK} (x : Nat) : bin .shr e (.int .u64 (x : Int)) (.int .u64 8) = some (.int .u64 ((x / 256 : Nat) : Int)) := shr_u64 x 8 (by decide)
theorem len64_ok {h : AHeap} {n : Nat} (hn : n < 65536) : ∃ v : Int, lim otab.get L8 (.fn 103) [.int .u64 (n : Int)] h = some (.int .i64 v, h) ∧ 0 ≤ v ∧ v ≤ 16 ∧ (1 ≤ n → v ≠ 0) := by
  have a1 : ¬ (4294967296 : Int) ≤ (n : Int) := by omega
  have a2 : ¬ (65536 : Int) ≤ (n : Int) := by omega
  have z8 : (0 : Int) + 8 = 8 := by decide
  by_cases a3 : (256 : Int) ≤ (n : Int)
  · obtain ⟨v, hv, v1, v2⟩ := lenT_ok (x := n / 256) (by omega)
    refine ⟨8 + v, ?_, by omega, by omega, by omega⟩
    refine runH (fn := of103) rfl rfl ?_
    show WK _ _ [] ⟨[.int .u64 (n : Int), aundef, aundef], h⟩ _
    dsimp only [of103]
    have e1 : n / 256 % 256 = n / 256 := Nat.mod_eq_of_lt (by omega)
    simp (disch := omega) only [RSd.down, geq_int, a1, a2, a3, decide_true, decide_false, shr_8, add_i64, z8, toIntV_u8, e1, hv, toIntV_i64, RetH_ret, result_1, and_self]
  · obtain ⟨v, hv, v1, v2⟩ := lenT_ok (x := n) (by omega)
    refine ⟨v, ?_, by omega, by omega, by omega⟩
    refine runH (fn := of103) rfl rfl ?_
    show WK _ _ [] ⟨[.int .u64 (n : Int), aundef, aundef], h⟩ _
    dsimp only [of103]
    have e1 : n % 256 = n := Nat.mod_eq_of_lt (by omega)
    have e2 : (0 : Int) + (v : Int) = v := by omega
    simp (disch := omega) only [RSd.down, geq_int, a1, a2, a3, decide_true, decide_false, shr_8, add_i64, e2, toIntV_u8, e1, hv, toIntV_i64, RetH_ret, result_1, and_self]
theorem len_ok {h : AHeap} {n : Nat} (hn : n < 65536) : ∃ v : Int, lim otab.get L8 (.fn 82) [.int .u64 (n : Int)] h = some (.int .i64 v, h) ∧ 0 ≤ v ∧ v ≤ 16 ∧ (1 ≤ n → v ≠ 0) := by
  obtain ⟨v, e, hv⟩ := len64_ok (h := h) hn
  refine ⟨v, ?_, hv⟩
  refine runH (fn := of82) rfl rfl ?_
  show WK _ _ [] ⟨[.int .u64 (n : Int), aundef], h⟩ _
  dsimp only [of82]
  simp only [RSd.down, e, RetH_ret, result_1, and_self]
section
variable {h : AHeap} {j : Nat} {L : List F3}
theorem sort0 : lim otab.get L8 (.fn 94) [.nils, .int .i64 0, .int .i64 0, cmpF] h = some (.tup [], h) := by
  refine runH (fn := of94) rfl rfl ?_
  show WK _ _ [] ⟨[.nils, .int .i64 0, .int .i64 0, cmpF, aundef, aundef, aundef, aundef, aundef, aundef, aundef], h⟩ _
  dsimp only [of94]
  simp (disch := omega) only [RSd.down, add_i64]
  refine WK_loop ?_
  simp only [RSd.down, lss_int, show decide ((0 : Int) + 1 < 0) = false from rfl, RetH_normal, result_0, and_self]
theorem pdq_nil (v : Int) : lim otab.get L8 (.fn 81) [.nils, .int .i64 0, .int .i64 0, .int .i64 v, cmpF] h = some (.tup [], h) := by
  refine runH (fn := of81) rfl rfl ?_
  show WK _ _ [] ⟨[.nils, .int .i64 0, .int .i64 0, .int .i64 v, cmpF, aundef, aundef, aundef, aundef, aundef, aundef, aundef, aundef, aundef], h⟩ _
  dsimp only [of81]
  simp only [RSd.down]
  refine WK_loop ?_
  simp (disch := omega) only [RSd.down, sub_i64, leq_int, show decide ((0 : Int) - 0 ≤ 12) = true from rfl, sort0, RetH_ret, result_0, and_self]
/-- the heap after sorting: an object more, or none -/
noncomputable def sorted (h : AHeap) (n : Nat) : AHeap := if n ≤ 12 then h else h.push (.cells [.int .i64 0] true)
theorem pdq_ok (S : Srt L) (hj : j < h.next) (hc : cellsOf h j = some (flat3 L)) (h1 : 1 ≤ L.length) {v : Int} (hv : v ≠ 0) : lim otab.get L8 (.fn 81) [sV j L.length, .int .i64 0, .int .i64 (L.length : Int), .int .i64 v, cmpF] h = some (.tup [], sorted h L.length) := by
  refine runH (fn := of81) rfl rfl ?_
  show WK _ _ [] ⟨[sV j L.length, .int .i64 0, .int .i64 (L.length : Int), .int .i64 v, cmpF, aundef, aundef, aundef, aundef, aundef, aundef, aundef, aundef, aundef], h⟩ _
  dsimp only [of81]
  have hn := S.n
  have e0 : (L.length : Int) - 0 = (L.length : Int) := by omega
  simp only [RSd.down]
  refine WK_loop ?_
  by_cases e : L.length ≤ 12
  · have e1 : (L.length : Int) ≤ 12 := by omega
    have e2 : sorted h L.length = h := if_pos e
    simp (disch := omega) only [RSd.down, sub_i64, e0, leq_int, e1, decide_true, ins_spec S hc h1, RetH_ret, result_0, and_self, e2]
  · have e1 : ¬ (L.length : Int) ≤ 12 := by omega
    have e2 : sorted h L.length = h.push (.cells [.int .i64 0] true) := if_neg e
    obtain ⟨w, hw⟩ := pivot_spec S hj hc (by omega)
    have hc1 : cellsOf (h.push (.cells [.int .i64 0] true)) j = some (flat3 L) := by rw [cellsOf_push_ne hj]; exact hc
    simp (disch := omega) only [RSd.down, sub_i64, e0, leq_int, e1, decide_false, decide_true, eql_int, hv, not_bool, Bool.not_true, hw, show decide ((1 : Int) = 2) = false from rfl, show decide ((1 : Int) = 1) = true from rfl, par_spec S hc1 h1, RetH_ret, result_0, and_self, e2]
theorem sort_nil : lim otab.get L8 (.fn 56) [.nils, cmpF] h = some (.tup [], h) := by
  obtain ⟨v, hv, _⟩ := len_ok (h := h) (n := 0) (by decide)
  refine runH (fn := of56) rfl rfl ?_
  show WK _ _ [] ⟨[.nils, cmpF, aundef, aundef], h⟩ _
  dsimp only [of56]
  have l0 : lenV 1 .nils h = some (.int .i64 ((0 : Nat) : Int)) := rfl
  simp (disch := omega) only [RSd.down, l0, toIntV_u64, hv]
  rw [show ((0 : Nat) : Int) = 0 from rfl]
  simp only [RSd.down, pdq_nil, RetH_normal, result_0, and_self]
theorem sort_ok (S : Srt L) (hj : j < h.next) (hc : cellsOf h j = some (flat3 L)) (h1 : 1 ≤ L.length) : lim otab.get L8 (.fn 56) [sV j L.length, cmpF] h = some (.tup [], sorted h L.length) := by
  have hn := S.n
  obtain ⟨v, hv, v1, v2, v3⟩ := len_ok (h := h) (n := L.length) (by omega)
  have hv0 := v3 h1
  refine runH (fn := of56) rfl rfl ?_
  show WK _ _ [] ⟨[sV j L.length, cmpF, aundef, aundef], h⟩ _
  dsimp only [of56]
  have l0 : lenV 1 (sV j L.length) h = some (.int .i64 (L.length : Int)) := rfl
  simp (disch := omega) only [RSd.down, l0, toIntV_u64, hv, pdq_ok S hj hc h1 hv0, RetH_normal, result_0, and_self]
/-- a list in order, sorted: the same list -/
theorem LI.sort {h0 h : AHeap} {b : AV} (S : Srt L) (H : LI h0 h b L) : ∃ h', lim otab.get L8 (.fn 56) [b, cmpF] h = some (.tup [], h') ∧ LI h0 h' b L := by
  rcases H.val with ⟨e1, e2⟩ | ⟨i, e1, e2, e3, e4, e5⟩
  · subst e1; exact ⟨h, sort_nil, H⟩
  · subst e1
    have h1 : 1 ≤ L.length := by cases L with | nil => exact absurd rfl e2 | cons _ _ => simp
    refine ⟨_, sort_ok S e4 (by unfold cellsOf; rw [e5]) h1, ?_⟩
    unfold sorted
    split
    · exact H
    · exact H.push _
end
end Go.AM
namespace Go.AM
open Go
/-- in order of A, then of B; within bounds -/
def ltF (f g : F3) : Prop := f.1 < g.1 ∨ (f.1 = g.1 ∧ f.2.1 < g.2.1)
def okF (f : F3) : Prop := 0 ≤ f.1 ∧ f.1 ≤ 100 ∧ -100 ≤ f.2.1 ∧ f.2.1 ≤ 100 ∧ 0 ≤ f.2.2 ∧ f.2.2 ≤ 20000
structure PW (L : List F3) : Prop where
  pw : L.Pairwise ltF
  ok : ∀ f ∈ L, okF f
theorem PW.nil : PW [] := ⟨.nil, fun _ h => nomatch h⟩
theorem itemL_cases {d : Int} {a : Nat} {b : Int} : itemL d a b = [] ∨ itemL d a b = [((a : Int), b, (b * b - d) / (4 * (a : Int)))] := by
  unfold itemL; split
  · split
    · exact .inr rfl
    · exact .inl rfl
  · exact .inl rfl
theorem rowF_pw {d : Int} (d1 : -10000 ≤ d) (d2 : d < 0) {a : Nat} (a1 : 1 ≤ a) (a2 : a ≤ 60) : ∀ (f : Nat) (b : Int) (L : List F3), b + f = a + 1 → -(a : Int) ≤ b → PW L → (∀ g ∈ L, g.1 < (a : Int) ∨ (g.1 = (a : Int) ∧ g.2.1 < b)) →
    PW (rowF d a f b L) ∧ ∀ g ∈ rowF d a f b L, g.1 < (a : Int) + 1
  | 0, b, L, hf, hb, H, hl => ⟨H, fun g hg => by have := hl g hg; omega⟩
  | f + 1, b, L, hf, hb, H, hl => by
    unfold rowF
    refine rowF_pw d1 d2 a1 a2 f (b + 1) _ (by omega) (by omega) ?_ ?_
    · rcases itemL_cases (d := d) (a := a) (b := b) with e | e
      · rw [e, List.append_nil]; exact H
      · rw [e]
        refine ⟨List.pairwise_append.2 ⟨H.pw, List.pairwise_singleton _ _, ?_⟩, ?_⟩
        · intro g hg g' hg'
          rw [List.mem_singleton] at hg'
          subst hg'
          exact hl g hg
        · intro g hg
          rw [List.mem_append, List.mem_singleton] at hg
          rcases hg with hg | rfl
          · exact H.ok g hg
          · have hbb : b * b ≤ 3600 := by
              have h1 : b.natAbs * b.natAbs ≤ 60 * 60 := Nat.mul_le_mul (by omega) (by omega)
              have h2 : ((b.natAbs * b.natAbs : Nat) : Int) = b * b := Int.natAbs_mul_self
              omega
            have hbb0 : 0 ≤ b * b := by
              have h2 : ((b.natAbs * b.natAbs : Nat) : Int) = b * b := Int.natAbs_mul_self
              omega
            have q0 : 0 ≤ (b * b - d) / (4 * (a : Int)) := Int.ediv_nonneg (by omega) (by omega)
            have q1 : (b * b - d) / (4 * (a : Int)) ≤ b * b - d := Int.ediv_le_self _ (by omega)
            exact ⟨by show (0 : Int) ≤ a; omega, by show (a : Int) ≤ 100; omega, by show -100 ≤ b; omega, by show b ≤ 100; omega, q0, by show (b * b - d) / (4 * (a : Int)) ≤ 20000; omega⟩
    · intro g hg
      rw [List.mem_append] at hg
      rcases hg with hg | hg
      · have := hl g hg; omega
      · rcases itemL_cases (d := d) (a := a) (b := b) with e | e
        · rw [e] at hg; nomatch hg
        · rw [e, List.mem_singleton] at hg
          subst hg
          exact .inr ⟨rfl, by show b < b + 1; omega⟩
theorem lstF_pw {d : Int} (d1 : -10000 ≤ d) (d2 : d < 0) : ∀ (f a : Nat) (L : List F3), a + f = 61 → 1 ≤ a → PW L → (∀ g ∈ L, g.1 < (a : Int)) → PW (lstF d f a L)
  | 0, a, L, hf, ha, H, hl => H
  | f + 1, a, L, hf, ha, H, hl => by
    unfold lstF; split
    · obtain ⟨h1, h2⟩ := rowF_pw d1 d2 ha (by omega) (2 * a + 1) (-(a : Int)) L (by omega) (by omega) H fun g hg => .inl (hl g hg)
      exact lstF_pw d1 d2 f (a + 1) _ (by omega) (by omega) h1 fun g hg => by have := h2 g hg; omega
    · exact H
theorem lstF_len {d : Int} : ∀ (f a : Nat) (L : List F3), a + f = 61 → (lstF d f a L).length ≤ L.length + 121 * f
  | 0, a, L, hf => Nat.le_refl _
  | f + 1, a, L, hf => by
    unfold lstF; split
    · have h1 := lstF_len (d := d) f (a + 1) (rowF d a (2 * a + 1) (-(a : Int)) L) (by omega)
      have h2 := rowF_len d a (2 * a + 1) (-(a : Int)) L
      omega
    · omega
/-- the list of the reduced forms with discriminant d -/
def formL (d : Int) : List F3 := lstF d 60 1 []
theorem formL_pw {d : Int} (d1 : -10000 ≤ d) (d2 : d < 0) : PW (formL d) := lstF_pw d1 d2 60 1 [] rfl (by decide) .nil fun g hg => nomatch hg
theorem formL_len {d : Int} : (formL d).length ≤ 7260 := lstF_len 60 1 [] rfl
theorem PW.srt {L : List F3} (H : PW L) (hn : L.length ≤ 7260) : Srt L := by
  refine ⟨fun i j hi hj => ?_, fun i hi => ?_, by omega⟩
  · have h := List.pairwise_iff_getElem.1 H.pw i j (by omega) hj hi
    unfold cmpV
    rcases h with h | ⟨h1, h2⟩
    · rw [if_pos (by omega)]; omega
    · rw [if_neg (by omega), if_pos (by omega)]; omega
  · obtain ⟨h1, h2, h3, h4, h5, h6⟩ := H.ok _ (List.getElem_mem hi)
    exact ⟨mid_of (by omega) (by omega), mid_of (by omega) (by omega), mid_of (by omega) (by omega)⟩
section
variable {h : AHeap}
theorem c_rfund8 {n : Int} : lim otab.get L8 (.fn 15) [.int .i64 n] h = some (.bool (decide (lg n = 0 ∧ fundP n)), h) := lim_oracle rfl
theorem c_large_8 {n : Int} : lim otab.get L8 (.fn 16) [.int .i64 n] h = some (.int .i64 (lg n), h) := lim_oracle rfl
theorem c_fund_8 {d : Int} (h1 : -100000 ≤ d) (h2 : d ≤ 100000) : lim otab.get L8 (.fn 42) [.int .i64 d] h = some (.bool (decide (fundP d)), h) :=
  lim_oracle (or_hit (spec := fundS) (if_pos ⟨h1, h2⟩))
theorem c_awake8 : lim otab.get L8 (.fn 17) [] h = some (.bool true, h) := lim_oracle rfl
/-- the reference's list -/
theorem rforms_ok {d : Int} (d1 : -10000 ≤ d) (d2 : d < 0) : ∃ b h', lim otab.get L8 (.fn 24) [.int .i64 d] h = some (b, h') ∧ LI h h' b (formL d) := by
  have key : WK (lim otab.get L8) of24.body [] ⟨[.int .i64 d, aundef, aundef, aundef, aundef, aundef, aundef, aundef, aundef], h⟩ fun x s => (∀ i, x ≠ .exit i) ∧ ∃ av, result of24.res s.tm s.h = some av ∧ LI h s.h av (formL d) := by
    dsimp only [of24]
    simp only [RSd.down]
    refine rfO_loop d1 d2 60 1 [] h .nils _ _ _ _ _ _ rfl (by decide) (LI.nil h) (by decide) ?_
    intro h' out' z1 z2 z3 z4 z6 z7 z8 H
    simp only [RSd.down]
    exact ⟨(fun i hi => by cases hi), out', rfl, H⟩
  obtain ⟨b, h', e, H⟩ := lim_walk_ex (T := otab.get) (I := L8) (a := [.int .i64 d]) (h := h) (P := fun v h' => LI h h' v (formL d)) (f := 24) (fn := of24) rfl rfl key
  exact ⟨b, h', e, H⟩
/-- the program's list -/
theorem forms_ok {d : Int} (d1 : -10000 ≤ d) (d2 : d < 0) (hf : fundP d) : ∃ b h', lim otab.get L8 (.fn 22) [.int .i64 d] h = some (.tup [b, .int .i64 0], h') ∧ LI h h' b (formL d) := by
  have e0 : lg d = 0 := by rcases lg_cases d with h | h <;> omega
  have key : WK (lim otab.get L8) of22.body [] ⟨[.int .i64 d, aundef, aundef, aundef, aundef, aundef, aundef, aundef, aundef], h⟩ fun x s => (∀ i, x ≠ .exit i) ∧ ∃ av, result of22.res s.tm s.h = some av ∧ ∃ b, av = .tup [b, .int .i64 0] ∧ LI h s.h b (formL d) := by
    dsimp only [of22]
    have t1 : ¬ (0 : Int) ≤ d := by omega
    have t2 : ¬ d < -10000 := by omega
    simp only [RSd.down]
    rw [bslice1 rfl rfl]
    simp only [RSd.down, bounded_1 (I := L8) (fun _ _ => rfl), e0, eql_int, decide_true, geq_int, t1, decide_false, lss_int, t2, c_fund_8 (d := d) (by omega) (by omega), hf, not_bool, Bool.not_true, neq_int, show decide ((0 : Int) ≠ 0) = false from rfl]
    refine pfO_loop d1 d2 60 1 [] _ .nils _ _ _ _ _ _ rfl (by decide) (LI.nil _) (by decide) ?_
    intro h' out' z1 z2 z3 z4 z6 z7 z8 H
    obtain ⟨h2, es, H2⟩ := H.sort ((formL_pw d1 d2).srt formL_len)
    simp only [RSd.down, es]
    refine ⟨(fun i hi => by cases hi), _, rfl, out', rfl, ?_⟩
    have hle := H2.le
    rw [AHeap.next_push] at hle
    refine ⟨by omega, fun j hj => ?_, ?_⟩
    · rw [H2.same j (by rw [AHeap.next_push]; omega), AHeap.get_push_lt _ _ hj]
    · rcases H2.val with e | ⟨i, e1, e2, e3, e4, e5⟩
      · exact .inl e
      · rw [AHeap.next_push] at e3
        exact .inr ⟨i, e1, e2, by omega, e4, e5⟩
  obtain ⟨v, h', e, b, rfl, H⟩ := lim_walk_ex (T := otab.get) (I := L8) (a := [.int .i64 d]) (h := h) (P := fun v h' => ∃ b, v = .tup [b, .int .i64 0] ∧ LI h h' b (formL d)) (f := 22) (fn := of22) rfl rfl key
  exact ⟨b, h', e, H⟩
end
end Go.AM
