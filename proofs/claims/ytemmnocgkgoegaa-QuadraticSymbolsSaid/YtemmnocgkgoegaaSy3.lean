/- The reference's factors and its Kronecker symbol: what the code computes. No condition. -/
import Derived.Test.YtemmnocgkgoegaaSy2
set_option maxRecDepth 100000
set_option linter.unusedSimpArgs false
set_option linter.unusedVariables false
namespace Go.AM
open Go
theorem isP.prime {p : Nat} (h : isP p) : QR.Prime p := ⟨h.1, fun m hm => by
  have hp := h.1
  by_cases h0 : m = 0
  · subst h0; have := Nat.eq_zero_of_zero_dvd hm; omega
  · by_cases h1 : m = 1
    · exact .inl h1
    · exact .inr (isP_dvd h (by omega) hm)⟩
theorem prime_isP {p : Nat} (h : QR.Prime p) : isP p := ⟨h.1, fun e h2 he hd => by
  rcases h.2 e hd with h1 | h1
  · omega
  · subst h1
    have : e * 2 ≤ e * e := Nat.mul_le_mul_left e h2
    omega⟩
/-- pairs, written out -/
def exL : List (Nat × Nat) → List Nat
  | [] => []
  | (p, e) :: r => List.replicate e p ++ exL r
theorem exL_app : ∀ (l : List (Nat × Nat)) (p e : Nat), exL (l ++ [(p, e)]) = exL l ++ List.replicate e p
  | [], p, e => by show List.replicate e p ++ [] = _; rw [List.append_nil]; rfl
  | (a, b) :: r, p, e => by show List.replicate b a ++ exL (r ++ [(p, e)]) = _; rw [exL_app r p e, ← List.append_assoc]; rfl
theorem pr_rep (p : Nat) : ∀ e : Nat, QR.pr (List.replicate e p) = p ^ e
  | 0 => rfl
  | e + 1 => by show p * QR.pr (List.replicate e p) = p ^ (e + 1); rw [pr_rep p e, Nat.pow_succ, Nat.mul_comm]
theorem mem_exL : ∀ {l : List (Nat × Nat)} {q : Nat}, q ∈ exL l → ∃ x ∈ l, q = x.1
  | (p, e) :: r, q, h => by
    have h' : q ∈ List.replicate e p ++ exL r := h
    rcases List.mem_append.1 h' with h1 | h1
    · exact ⟨(p, e), List.mem_cons_self, (List.mem_replicate.1 h1).2⟩
    · obtain ⟨x, hx, e1⟩ := mem_exL h1
      exact ⟨x, List.mem_cons_of_mem _ hx, e1⟩
/-- the factors found so far, and the rest -/
structure FP (n0 n : Nat) (L : List (Nat × Nat)) : Prop where
  pr : QR.pr (exL L) * n = n0
  ok : ∀ x ∈ L, QR.Prime x.1 ∧ x.1 ≤ 100000 ∧ x.2 ≤ 200000
theorem FP.step {n0 n n' d j : Nat} {L : List (Nat × Nat)} (H : FP n0 n L) (hd : QR.Prime d) (hd2 : d ≤ 100000) (hj : j ≤ 200000) (hn : n = d ^ j * n') : FP n0 n' (L ++ [(d, j)]) := by
  refine ⟨?_, fun x hx => ?_⟩
  · rw [exL_app, QR.pr_app, pr_rep, Nat.mul_assoc, ← hn, H.pr]
  · rcases List.mem_append.1 hx with h | h
    · exact H.ok x h
    · rw [List.mem_singleton.1 h]; exact ⟨hd, hd2, hj⟩
section
variable {C : CallT} {K : List Fr} {Q : AX → St → Prop}
noncomputable def fxB : ACode := match of65.body with | .seq _ (.seq _ (.seq (.seq _ (.block _ (.loop (.seq _ (.seq (.block _ (.seq _ (.seq _ (.seq (.block _ (.loop b)) _)))) _))))) _)) => b | c => c
noncomputable def rfB : ACode := match of65.body with | .seq _ (.seq _ (.seq (.seq _ (.block _ (.loop b))) _)) => b | c => c
theorem fx_loop {h : AHeap} {d : Nat} {out : AV} (hd : 2 ≤ d) (hd2 : d ≤ 100000) : ∀ (f n k : Nat) (y3 : AV), 1 ≤ n → n < 2 ^ f → n ≤ 100000 → k + n ≤ 200000 →
    (∀ (n' j : Nat) (z3 : AV), n = d ^ j * n' → ¬ d ∣ n' → 1 ≤ n' → n' ≤ n → k + j ≤ 200000 → WX C (.exit 2) K ⟨[.int .i64 (n' : Int), .int .i64 (d : Int), .int .i64 ((k + j : Nat) : Int), z3, out], h⟩ Q) →
    WK C (.loop fxB) K ⟨[.int .i64 (n : Int), .int .i64 (d : Int), .int .i64 (k : Int), y3, out], h⟩ Q
  | 0, n, k, y3, hn, hf, _, _, _ => by simp at hf; omega
  | f + 1, n, k, y3, hn, hf, hn2, hk, hQ => by
    refine WK_loop' (by dsimp only [fxB, of65]) ?_
    by_cases hdv : d ∣ n
    · obtain ⟨q, rfl⟩ := hdv
      have hq : 1 ≤ q := by
        rcases Nat.eq_zero_or_pos q with e | e
        · subst e; omega
        · exact e
      have hdq : 2 * q ≤ d * q := Nat.mul_le_mul_right q hd
      have e1 : (((d * q : Nat)) : Int) % (d : Int) = 0 := by rw [Int.natCast_mul]; exact Int.mul_emod_right _ _
      have e2 : (((d * q : Nat)) : Int) / (d : Int) = (q : Int) := by rw [Int.natCast_mul]; exact Int.mul_ediv_cancel_left _ (by omega)
      simp (disch := omega) only [RSd.down, rem_pos, e1, eql_int, decide_true, quo_pos, e2, add_i64, show (k : Int) + 1 = ((k + 1 : Nat) : Int) from rfl]
      refine fx_loop hd hd2 f q (k + 1) _ hq (by rw [Nat.pow_succ] at hf; omega) (by omega) (by omega) ?_
      intro n' j z3 a1 a2 a3 a4 a5
      have := hQ n' (j + 1) z3 (by rw [a1, Nat.pow_succ, Nat.mul_comm (d ^ j) d, Nat.mul_assoc]) a2 a3 (by omega) (by omega)
      rw [show k + 1 + j = k + (j + 1) by omega]
      exact this
    · have e1 : ¬ (n : Int) % (d : Int) = 0 := by
        intro e; exact hdv (Nat.dvd_of_mod_eq_zero (by omega))
      simp (disch := omega) only [RSd.down, rem_pos, e1, eql_int, decide_false]
      exact hQ n 0 (.bool false) (by simp) hdv hn (Nat.le_refl _) (by omega)
theorem rf_loop {n0 : Nat} : ∀ (f d n : Nat) (L : List (Nat × Nat)) (h : AHeap) (out y2 y3 : AV), 2 ≤ d → d + f = 400 → 1 ≤ n → n ≤ 100000 → NoDiv d n → FP n0 n L → LJ h out L → L.length ≤ d →
    (∀ (h' : AHeap) (out' z0 z1 z2 z3 : AV) (L' : List (Nat × Nat)), FP n0 1 L' → LJ h' out' L' → L'.length ≤ 1000 → WX C (.exit 0) K ⟨[z0, z1, z2, z3, out'], h'⟩ Q) →
    WK C (.loop rfB) K ⟨[.int .i64 (n : Int), .int .i64 (d : Int), y2, y3, out], h⟩ Q := by
  have done : ∀ (d : Int) (L : List (Nat × Nat)) (h : AHeap) (out y2 y3 : AV), FP n0 1 L → LJ h out L → L.length ≤ 1000 →
      (∀ (h' : AHeap) (out' z0 z1 z2 z3 : AV) (L' : List (Nat × Nat)), FP n0 1 L' → LJ h' out' L' → L'.length ≤ 1000 → WX C (.exit 0) K ⟨[z0, z1, z2, z3, out'], h'⟩ Q) →
      WK C (.loop rfB) K ⟨[.int .i64 1, .int .i64 d, y2, y3, out], h⟩ Q := by
    intro d L h out y2 y3 H1 H2 H3 hQ
    refine WK_loop' (by dsimp only [rfB, of65]) ?_
    simp only [RSd.down, gtr_int, show decide ((1 : Int) < 1) = false from rfl]
    exact hQ _ _ _ _ _ _ L H1 H2 H3
  intro f
  induction f with
  | zero =>
    intro d n L h out y2 y3 h1 h2 h3 h4 hN H1 H2 H3 hQ
    have hd : d = 400 := by omega
    subst hd
    by_cases hn : n = 1
    · subst hn
      exact done _ L h out y2 y3 H1 H2 (by omega) hQ
    · have hp : isP n := isP_of_noDiv hN (by omega) (by omega)
      refine WK_loop' (by dsimp only [rfB, of65]) ?_
      have e1 : ((1 : Int) < (n : Int)) = True := eq_true (by omega)
      have e2 : (((400 : Nat) : Int) * ((400 : Nat) : Int)) = 160000 := rfl
      have e3 : ((n : Int) < 160000) = True := eq_true (by omega)
      simp (disch := omega) only [RSd.down, gtr_int, e1, decide_true, mul_i64, e2, e3]
      refine fx_loop (d := n) (by omega) h4 17 n 0 _ h3 (by omega) h4 (by omega) ?_
      intro n' j z3 a1 a2 a3 a4 a5
      rw [Nat.zero_add] at *
      have hj : j ≠ 0 := by
        intro e; subst e
        rw [Nat.pow_zero, Nat.one_mul] at a1
        exact a2 (by rw [← a1]; exact Nat.dvd_refl _)
      have hn' : n' = 1 := by
        have e2 : n ≤ n ^ j := Nat.le_self_pow hj n
        have e3 : n * n' ≤ n ^ j * n' := Nat.mul_le_mul_right n' e2
        rw [← a1] at e3
        rcases Nat.lt_or_ge 1 n' with e4 | e4
        · have : n * 2 ≤ n * n' := Nat.mul_le_mul_left n e4
          omega
        · omega
      subst hn'
      have H1' := H1.step hp.prime h4 a5 a1
      have e4 : ((0 : Int) < (j : Int)) = True := eq_true (by omega)
      have hbld : ∀ tm : List AV, nth tm 1 = .int .i64 (n : Int) → nth tm 2 = .int .i64 (j : Int) → evalQ (.build [.int .i64 0, .int .i64 0] [(0, 1, .tmp 1), (1, 1, .tmp 2)]) tm h = some (.agg [.int .i64 (n : Int), .int .i64 (j : Int)]) := by
        intro tm t1 t2
        rw [evalQ_build]; simp only [fills, ev_tmp, t1, t2]; rfl
      obtain ⟨b', h', ea, H2'⟩ := H2.app n j (by omega)
      simp only [RSd.down, gtr_int, e4, decide_true]
      rw [hbld _ rfl rfl]
      simp only [RSd.down]
      rw [show evalA (.bslice 1 2 [.int .i64 0, .int .i64 0] [(0, .tmp 2)]) [.int .i64 ((1 : Nat) : Int), .int .i64 (n : Int), .agg [.int .i64 (n : Int), .int .i64 (j : Int)], .bool true, out] h = some (.cells [.int .i64 (n : Int), .int .i64 (j : Int)] true, .slice h.next 0 1 (.exact 1)) from rfl]
      simp (disch := omega) only [RSd.down, ea, add_i64]
      exact done _ _ _ _ _ _ H1' H2' (by simp; omega) hQ
  | succ f ih =>
    intro d n L h out y2 y3 h1 h2 h3 h4 hN H1 H2 H3 hQ
    by_cases hn : n = 1
    · subst hn
      exact done _ L h out y2 y3 H1 H2 (by omega) hQ
    · refine WK_loop' (by dsimp only [rfB, of65]) ?_
      have e1 : ((1 : Int) < (n : Int)) = True := eq_true (by omega)
      have e2 : (d : Int) * (d : Int) = ((d * d : Nat) : Int) := (Int.natCast_mul _ _).symm
      have hdd : d * d ≤ 400 * 400 := Nat.mul_le_mul (by omega) (by omega)
      by_cases hlt : n < d * d
      · have hp : isP n := isP_of_noDiv hN hlt (by omega)
        have e3 : ((n : Int) < ((d * d : Nat) : Int)) = True := eq_true (by omega)
        simp (disch := omega) only [RSd.down, gtr_int, e1, decide_true, mul_i64, e2, e3]
        refine fx_loop (d := n) (by omega) h4 17 n 0 _ h3 (by omega) h4 (by omega) ?_
        intro n' j z3 a1 a2 a3 a4 a5
        rw [Nat.zero_add] at *
        have hj : j ≠ 0 := by
          intro e; subst e
          rw [Nat.pow_zero, Nat.one_mul] at a1
          exact a2 (by rw [← a1]; exact Nat.dvd_refl _)
        have hn' : n' = 1 := by
          have e2 : n ≤ n ^ j := Nat.le_self_pow hj n
          have e3 : n * n' ≤ n ^ j * n' := Nat.mul_le_mul_right n' e2
          rw [← a1] at e3
          rcases Nat.lt_or_ge 1 n' with e4 | e4
          · have : n * 2 ≤ n * n' := Nat.mul_le_mul_left n e4
            omega
          · omega
        subst hn'
        have H1' := H1.step hp.prime h4 a5 a1
        have e4 : ((0 : Int) < (j : Int)) = True := eq_true (by omega)
        have hbld : ∀ tm : List AV, nth tm 1 = .int .i64 (n : Int) → nth tm 2 = .int .i64 (j : Int) → evalQ (.build [.int .i64 0, .int .i64 0] [(0, 1, .tmp 1), (1, 1, .tmp 2)]) tm h = some (.agg [.int .i64 (n : Int), .int .i64 (j : Int)]) := by
          intro tm t1 t2
          rw [evalQ_build]; simp only [fills, ev_tmp, t1, t2]; rfl
        obtain ⟨b', h', ea, H2'⟩ := H2.app n j (by omega)
        simp only [RSd.down, gtr_int, e4, decide_true]
        rw [hbld _ rfl rfl]
        simp only [RSd.down]
        rw [show evalA (.bslice 1 2 [.int .i64 0, .int .i64 0] [(0, .tmp 2)]) [.int .i64 ((1 : Nat) : Int), .int .i64 (n : Int), .agg [.int .i64 (n : Int), .int .i64 (j : Int)], .bool true, out] h = some (.cells [.int .i64 (n : Int), .int .i64 (j : Int)] true, .slice h.next 0 1 (.exact 1)) from rfl]
        simp (disch := omega) only [RSd.down, ea, add_i64]
        exact done _ _ _ _ _ _ H1' H2' (by simp; omega) hQ
      · have e3 : ((n : Int) < ((d * d : Nat) : Int)) = False := eq_false (by omega)
        simp (disch := omega) only [RSd.down, gtr_int, e1, decide_true, decide_false, mul_i64, e2, e3]
        refine fx_loop (d := d) h1 (by omega) 17 n 0 _ h3 (by omega) h4 (by omega) ?_
        intro n' j z3 a1 a2 a3 a4 a5
        rw [Nat.zero_add] at *
        have hN' : NoDiv (d + 1) n' := by
          intro e g1 g2 hx
          rcases Nat.lt_or_ge e d with g3 | g3
          · exact hN e g1 g3 (Nat.dvd_trans hx (by rw [a1]; exact Nat.dvd_mul_left _ _))
          · have : e = d := by omega
            subst this; exact a2 hx
        by_cases hj : j = 0
        · subst hj
          have hnn : n = n' := by rw [a1, Nat.pow_zero, Nat.one_mul]
          subst hnn
          have e4 : ((0 : Int) < ((0 : Nat) : Int)) = False := eq_false (by omega)
          simp (disch := omega) only [RSd.down, gtr_int, e4, decide_false, add_i64, show (d : Int) + 1 = ((d + 1 : Nat) : Int) from rfl]
          exact ih (d + 1) n L h out _ _ (by omega) (by omega) h3 h4 hN' H1 H2 (by omega) hQ
        · have hp : isP d := isP_of_dvd h1 hN (by
            rw [a1]; exact Nat.dvd_trans ⟨d ^ (j - 1), by rw [← Nat.pow_succ']; congr 1; omega⟩ (Nat.dvd_mul_right _ n'))
          have H1' := H1.step hp.prime (by omega) a5 a1
          have e4 : ((0 : Int) < (j : Int)) = True := eq_true (by omega)
          have hbld : ∀ tm : List AV, nth tm 1 = .int .i64 (d : Int) → nth tm 2 = .int .i64 (j : Int) → evalQ (.build [.int .i64 0, .int .i64 0] [(0, 1, .tmp 1), (1, 1, .tmp 2)]) tm h = some (.agg [.int .i64 (d : Int), .int .i64 (j : Int)]) := by
            intro tm t1 t2
            rw [evalQ_build]; simp only [fills, ev_tmp, t1, t2]; rfl
          obtain ⟨b', h', ea, H2'⟩ := H2.app d j (by omega)
          simp only [RSd.down, gtr_int, e4, decide_true]
          rw [hbld _ rfl rfl]
          simp only [RSd.down]
          rw [show evalA (.bslice 1 2 [.int .i64 0, .int .i64 0] [(0, .tmp 2)]) [.int .i64 (n' : Int), .int .i64 (d : Int), .agg [.int .i64 (d : Int), .int .i64 (j : Int)], .bool true, out] h = some (.cells [.int .i64 (d : Int), .int .i64 (j : Int)] true, .slice h.next 0 1 (.exact 1)) from rfl]
          simp (disch := omega) only [RSd.down, ea, add_i64, show (d : Int) + 1 = ((d + 1 : Nat) : Int) from rfl]
          exact ih (d + 1) n' _ h' b' _ _ (by omega) (by omega) a3 (by omega) hN' H1' H2' (by simp; omega) hQ
end
/-- the reference's factors -/
theorem rfac_spec {I : Oracle} (hI : ∀ a h, I 65 a h = none) {n0 : Nat} (h1 : 1 ≤ n0) (h2 : n0 ≤ 100000) (h : AHeap) :
    ∃ b h', lim otab.get I (.fn 65) [.int .i64 (n0 : Int)] h = some (b, h') ∧ ∃ L : List (Nat × Nat), FP n0 1 L ∧ LJ h' b L ∧ L.length ≤ 1000 := by
  refine lim_walk_ex (T := otab.get) (I := I) (fn := of65) (f := 65) rfl (P := fun b h' => ∃ L : List (Nat × Nat), FP n0 1 L ∧ LJ h' b L ∧ L.length ≤ 1000) (hI _ _) ?_
  show WK _ _ [] ⟨[.int .i64 (n0 : Int), aundef, aundef, aundef, aundef], h⟩ _
  dsimp only [of65]
  simp only [RSd.down]
  refine rf_loop (n0 := n0) 398 2 n0 [] h .nils _ _ (Nat.le_refl _) rfl h1 h2 (fun e g1 g2 => by omega) ⟨Nat.one_mul _, fun x hx => nomatch hx⟩ ⟨.inl ⟨rfl, rfl⟩⟩ (by decide) ?_
  intro h' out' z0 z1 z2 z3 L H1 H2 H3
  simp only [RSd.down]
  exact ⟨(fun i hi => by cases hi), out', rfl, L, H1, H2, H3⟩
end Go.AM
