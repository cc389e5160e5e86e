/- Primes and factors: what the code computes. No condition. -/
import Derived.Test.YtemmnocgkgoegaaSqm
set_option maxRecDepth 100000
set_option linter.unusedSimpArgs false
namespace Go.AM
open Go
/-- no number from 2 to d - 1 divides n -/
def NoDiv (d n : Nat) : Prop := ∀ e, 2 ≤ e → e < d → ¬ e ∣ n
def isP (n : Nat) : Prop := 1 < n ∧ ∀ e, 2 ≤ e → e * e ≤ n → ¬ e ∣ n
noncomputable def isPB (n : Nat) : Bool := open Classical in decide (isP n)
theorem isPB_true {n : Nat} (h : isP n) : isPB n = true := by unfold isPB; simp [h]
theorem isPB_false {n : Nat} (h : ¬ isP n) : isPB n = false := by unfold isPB; simp [h]
theorem lt_of_sq {a b : Nat} (h : a * a < b * b) : a < b := by
  rcases Nat.lt_or_ge a b with h1 | h1
  · exact h1
  · have := Nat.mul_le_mul h1 h1; omega
/-- below its square root nothing divides it: a prime -/
theorem isP_of_noDiv {d n : Nat} (h : NoDiv d n) (hd : n < d * d) (hn : 1 < n) : isP n :=
  ⟨hn, fun e h2 he => h e h2 (lt_of_sq (Nat.lt_of_le_of_lt he hd))⟩
theorem isP_dvd {n e : Nat} (h : isP n) (he : 2 ≤ e) (hd : e ∣ n) : e = n := by
  obtain ⟨q, rfl⟩ := hd
  have hq : q ≠ 0 := by intro e0; subst e0; have := h.1; omega
  rcases Nat.lt_or_ge q 2 with h1 | h1
  · have : q = 1 := by omega
    subst this; omega
  · rcases Nat.le_total e q with h3 | h3
    · exact absurd (Nat.dvd_mul_right e q) (h.2 e he (Nat.mul_le_mul_left e h3))
    · exact absurd (Nat.dvd_mul_left q e) (h.2 q h1 (Nat.mul_le_mul_right q h3))
section
variable {C : CallT} {K : List Fr} {Q : AX → St → Prop} {h : AHeap}
noncomputable def rprB : ACode := match of29.body with | .seq _ (.seq (.seq _ (.block _ (.loop b))) _) => b | c => c
theorem rpr_loop {n : Nat} (hn : n ≤ 100000) : ∀ (f d : Nat) (y2 : AV), 2 ≤ d → d + f = 402 → NoDiv d n →
    (¬ isP n → ∀ z2 : AV, WX C .ret K ⟨[.int .i64 (n : Int), .bool false, z2], h⟩ Q) →
    ((1 < n ↔ isP n) → ∀ z1 z2 : AV, WX C (.exit 0) K ⟨[.int .i64 (n : Int), z1, z2], h⟩ Q) →
    WK C (.loop rprB) K ⟨[.int .i64 (n : Int), .int .i64 (d : Int), y2], h⟩ Q := by
  intro f
  induction f with
  | zero =>
    intro d y2 hd hf hN _ hQ
    refine WK_loop' (by dsimp only [rprB, of29]) ?_
    have e1 : (d : Int) * (d : Int) = ((d * d : Nat) : Int) := by rw [Int.natCast_mul]
    have hd2 : d = 402 := by omega
    subst hd2
    have e2 : ¬ ((402 * 402 : Nat) : Int) ≤ (n : Int) := by omega
    simp (disch := omega) only [RSd.down, mul_i64, e1, leq_int, e2, decide_false]
    exact hQ ⟨fun h1 => isP_of_noDiv hN (by omega) h1, fun h1 => h1.1⟩ _ _
  | succ f ih =>
    intro d y2 hd hf hN hR hQ
    refine WK_loop' (by dsimp only [rprB, of29]) ?_
    have e1 : (d : Int) * (d : Int) = ((d * d : Nat) : Int) := by rw [Int.natCast_mul]
    have hdd : d * d ≤ 402 * 402 := Nat.mul_le_mul (by omega) (by omega)
    by_cases hle : d * d ≤ n
    · have e2 : ((d * d : Nat) : Int) ≤ (n : Int) := by omega
      by_cases hdv : d ∣ n
      · have e3 : (n : Int) % (d : Int) = 0 := by have := Nat.mod_eq_zero_of_dvd hdv; omega
        simp (disch := omega) only [RSd.down, mul_i64, e1, leq_int, e2, decide_true, rem_pos, eql_int, e3]
        exact hR (fun h1 => h1.2 d hd hle hdv) _
      · have e3 : ¬ (n : Int) % (d : Int) = 0 := by
          intro e; exact hdv (Nat.dvd_of_mod_eq_zero (by omega))
        simp (disch := omega) only [RSd.down, mul_i64, e1, leq_int, e2, decide_true, decide_false, rem_pos, eql_int, e3, add_i64, show (d : Int) + 1 = ((d + 1 : Nat) : Int) from rfl]
        refine ih (d + 1) _ (by omega) (by omega) ?_ hR hQ
        intro e h2 he
        rcases Nat.lt_or_ge e d with h3 | h3
        · exact hN e h2 h3
        · have : e = d := by omega
          subst this; exact hdv
    · have e2 : ¬ ((d * d : Nat) : Int) ≤ (n : Int) := by omega
      simp (disch := omega) only [RSd.down, mul_i64, e1, leq_int, e2, decide_false]
      exact hQ ⟨fun h1 => isP_of_noDiv hN (by omega) h1, fun h1 => h1.1⟩ _ _
end
noncomputable def rprS : List AV → Option AV
  | [.int .i64 n] => if 0 ≤ n ∧ n ≤ 100000 then some (.bool (isPB n.toNat)) else none
  | _ => none
theorem rpr_run {n : Nat} (hn : n ≤ 100000) : ∃ h', lim otab.get I12 (.fn 29) [.int .i64 (n : Int)] .empty = some (.bool (isPB n), h') := by
  refine run_of (fn := of29) rfl rfl ?_
  show WK _ _ [] ⟨[.int .i64 (n : Int), aundef, aundef], .empty⟩ _
  dsimp only [of29]
  simp only [RSd.down]
  refine rpr_loop hn 400 2 _ (Nat.le_refl _) rfl (fun e h1 h2 => by omega) (fun h1 z2 => ?_) (fun h1 z1 z2 => ?_)
  · simp only [RSd.down, Ret_ret, result_1, isPB_false h1]
  · by_cases h2 : 1 < n
    · have : (1 : Int) < (n : Int) := by omega
      simp only [RSd.down, gtr_int, this, decide_true, Ret_ret, result_1, isPB_true (h1.1 h2)]
    · have : ¬ (1 : Int) < (n : Int) := by omega
      simp only [RSd.down, gtr_int, this, decide_false, Ret_ret, result_1, isPB_false (fun h3 => h2 (h1.2 h3))]
noncomputable def I13 : Oracle := ext I12 29 rprS
theorem I13_ok : IOK Go.Proofs.Try.prog I13 := IOK.extL mixed tabOK otabOK I12_ok (g := 29) (fn := af29) rfl fun args av h => by
  unfold rprS at h
  split at h
  · split at h
    · rename_i n hn
      cases h
      obtain ⟨m, rfl⟩ := Int.eq_ofNat_of_zero_le hn.1
      exact ⟨rfl, rfl, rpr_run (by omega)⟩
    · cases h
  · cases h
end Go.AM
namespace Go.AM
open Go
/-- pairs as cells -/
def flat2 : List (Nat × Nat) → List AV
  | [] => []
  | (p, e) :: r => .int .i64 (p : Int) :: .int .i64 (e : Int) :: flat2 r
theorem flat2_app : ∀ (l : List (Nat × Nat)) (p e : Nat), flat2 (l ++ [(p, e)]) = flat2 l ++ [.int .i64 (p : Int), .int .i64 (e : Int)]
  | [], _, _ => rfl
  | (a, b) :: r, p, e => by show _ :: _ :: flat2 (r ++ [(p, e)]) = _; rw [flat2_app r p e]; rfl
theorem flat2_len : ∀ l : List (Nat × Nat), (flat2 l).length = 2 * l.length
  | [] => rfl
  | (a, b) :: r => by show (flat2 r).length + 2 = _; rw [flat2_len r]; simp; omega
/-- two cells that the closure shares with its maker: a number, and the list made so far -/
structure FI (h : AHeap) (i0 i1 : Nat) (n : Nat) (L : List (Nat × Nat)) : Prop where
  l0 : i0 < h.next
  l1 : i1 < h.next
  ne : i0 ≠ i1
  g0 : h.get i0 = some (.cells [.int .i64 (n : Int)] true)
  g1 : ∃ b, h.get i1 = some (.cells [b] true) ∧ ((b = .nils ∧ L = []) ∨ ∃ j, b = .slice j 0 L.length (.opn 2) ∧ L ≠ [] ∧ j < h.next ∧ j ≠ i0 ∧ j ≠ i1 ∧ h.get j = some (.cells (flat2 L) true))
theorem store1 {C : CallT} {tm : List AV} {h : AHeap} {a x : AOpd} {i : Nat} {v w : AV} (ha : ev tm a = .ptr i 0) (hg : h.get i = some (.cells [w] true)) (hx : ev tm x = v) (hv : v.scalar = true) : evalE (.store 1 a x) C tm h = some (aundef, h.set i (.cells [v] true)) := by
  have hc : v.cells = [v] := by cases v <;> simp_all [AV.cells, AV.scalar]
  have ho : ownOf h i = some [w] := by unfold ownOf; rw [hg]
  have hl : lay [w] 0 [v] = some [v] := by rw [lay_cons, lay_zero]
  simp only [evalE, ha, ho, hx, hc]
  rw [if_pos ⟨rfl, by simp [hv]⟩, hl]
theorem FI.set {h : AHeap} {i0 i1 n : Nat} {L : List (Nat × Nat)} (H : FI h i0 i1 n L) (m : Nat) : FI (h.set i0 (.cells [.int .i64 (m : Int)] true)) i0 i1 m L := by
  obtain ⟨b, hb, hv⟩ := H.g1
  refine ⟨H.l0, H.l1, H.ne, AHeap.get_set_same _ _ _, b, ?_, ?_⟩
  · rw [AHeap.get_set_ne _ _ (Ne.symm H.ne)]; exact hb
  · rcases hv with hv | ⟨j, e1, e2, e3, e4, e5, e6⟩
    · exact .inl hv
    · exact .inr ⟨j, e1, e2, e3, e4, e5, by rw [AHeap.get_set_ne _ _ e4]; exact e6⟩
section
variable {C : CallT} {K : List Fr} {Q : AX → St → Prop}
noncomputable def tryB : ACode := match of123.body with | .seq _ (.seq (.block _ (.loop b)) _) => b | c => c
theorem try_loop {i0 i1 d : Nat} {L : List (Nat × Nat)} (hd : 2 ≤ d) (hd2 : d ≤ 100000) : ∀ (f n k : Nat) (h : AHeap) (y4 : AV), 1 ≤ n → n < 2 ^ f → n ≤ 100000 → k ≤ 100000 - n → FI h i0 i1 n L →
    (∀ (h' : AHeap) (n' j : Nat) (z4 : AV), n = d ^ j * n' → ¬ d ∣ n' → 1 ≤ n' → n' ≤ n → k + j ≤ 100000 → FI h' i0 i1 n' L → WX C (.exit 0) K ⟨[.int .i64 (d : Int), .ptr i0 0, .ptr i1 0, .int .i64 ((k + j : Nat) : Int), z4], h'⟩ Q) →
    WK C (.loop tryB) K ⟨[.int .i64 (d : Int), .ptr i0 0, .ptr i1 0, .int .i64 (k : Int), y4], h⟩ Q
  | 0, n, k, h, y4, hn, hf, _, _, _, _ => by simp at hf; omega
  | f + 1, n, k, h, y4, hn, hf, hn2, hk, H, hQ => by
    refine WK_loop' (by dsimp only [tryB, of123]) ?_
    have hc : cellsOf h i0 = some [.int .i64 (n : Int)] := cellsOf_get H.g0
    have hx : ([.int .i64 (n : Int)] : List AV)[0]? = some (.int .i64 (n : Int)) := rfl
    by_cases hdv : d ∣ n
    · obtain ⟨q, rfl⟩ := hdv
      have hq : 1 ≤ q := by
        rcases Nat.eq_zero_or_pos q with e | e
        · subst e; omega
        · exact e
      have hdq : 2 * q ≤ d * q := Nat.mul_le_mul_right q hd
      have e1 : (((d * q : Nat)) : Int) % (d : Int) = 0 := by rw [Int.natCast_mul]; exact Int.mul_emod_right _ _
      have e2 : (((d * q : Nat)) : Int) / (d : Int) = (q : Int) := by rw [Int.natCast_mul]; exact Int.mul_ediv_cancel_left _ (by omega)
      simp (disch := omega) only [RSd.down, loadV_at hc hx, rem_pos, e1, eql_int, decide_true, quo_pos, e2]
      rw [store1 (v := .int .i64 (q : Int)) rfl H.g0 rfl rfl]
      simp (disch := omega) only [RSd.down, add_i64, show (k : Int) + 1 = ((k + 1 : Nat) : Int) from rfl]
      refine try_loop hd hd2 f q (k + 1) _ _ hq (by rw [Nat.pow_succ] at hf; omega) (by omega) (by omega) (H.set q) ?_
      intro h' n' j z4 a1 a2 a3 a4 a5 a6
      have := hQ h' n' (j + 1) z4 (by rw [a1, Nat.pow_succ, Nat.mul_comm (d ^ j) d, Nat.mul_assoc]) a2 a3 (by omega) (by omega) a6
      rw [show k + 1 + j = k + (j + 1) by omega]
      exact this
    · have e1 : ¬ (n : Int) % (d : Int) = 0 := by
        intro e; exact hdv (Nat.dvd_of_mod_eq_zero (by omega))
      simp (disch := omega) only [RSd.down, loadV_at hc hx, rem_pos, e1, eql_int, decide_false]
      have := hQ h n 0 (.bool false) (by simp) hdv hn (Nat.le_refl _) (by omega) H
      exact this
end
/-- the call of the closure -/
theorem try_spec {I : Oracle} (hI : ∀ a h, I 123 a h = none) {h : AHeap} {i0 i1 d n : Nat} {L : List (Nat × Nat)} (hd : 2 ≤ d) (hd2 : d ≤ 100000) (hn : 1 ≤ n) (hn2 : n ≤ 100000) (hL : L.length ≤ 1000) (H : FI h i0 i1 n L) :
    ∃ n' j h', n = d ^ j * n' ∧ ¬ d ∣ n' ∧ 1 ≤ n' ∧ n' ≤ n ∧ FI h' i0 i1 n' (if 0 < j then L ++ [(d, j)] else L) ∧ lim otab.get I (.fn 123) [.int .i64 (d : Int), .ptr i0 0, .ptr i1 0] h = some (.tup [], h') := by
  have key := lim_walk_ex (T := otab.get) (I := I) (fn := of123) (f := 123) rfl (a := [.int .i64 (d : Int), .ptr i0 0, .ptr i1 0]) (h := h)
    (P := fun v h' => v = .tup [] ∧ ∃ n' j, n = d ^ j * n' ∧ ¬ d ∣ n' ∧ 1 ≤ n' ∧ n' ≤ n ∧ FI h' i0 i1 n' (if 0 < j then L ++ [(d, j)] else L)) (hI _ _) ?_
  · obtain ⟨v, h', e, rfl, n', j, a1, a2, a3, a4, a5⟩ := key
    exact ⟨n', j, h', a1, a2, a3, a4, a5, e⟩
  · show WK _ _ [] ⟨[.int .i64 (d : Int), .ptr i0 0, .ptr i1 0, aundef, aundef], h⟩ _
    dsimp only [of123]
    simp only [RSd.down]
    refine try_loop hd hd2 17 n 0 h _ hn (by omega) hn2 (by omega) H ?_
    intro h' n' j z4 a1 a2 a3 a4 a5 H'
    rw [Nat.zero_add] at a5 ⊢
    simp only [RSd.down, gtr_int]
    by_cases hj : 0 < j
    · have e1 : (0 : Int) < (j : Int) := by omega
      obtain ⟨b, hb, hv⟩ := H'.g1
      have hb2 : loadV none (.ptr i1 0) h' = some b := loadV_at (cellsOf_get hb) rfl
      have hbld : evalQ (.build [.int .i64 0, .int .i64 0] [(0, 1, .tmp 0), (1, 1, .tmp 3)]) [.int .i64 (d : Int), b, .ptr i1 0, .int .i64 (j : Int), z4] h' = some (.agg [.int .i64 (d : Int), .int .i64 (j : Int)]) := rfl
      have hsl : evalA (.bslice 1 2 [.int .i64 0, .int .i64 0] [(0, .tmp 0)]) [.agg [.int .i64 (d : Int), .int .i64 (j : Int)], b, .ptr i1 0, .int .i64 (j : Int), z4] h' = some (.cells [.int .i64 (d : Int), .int .i64 (j : Int)] true, .slice h'.next 0 1 (.exact 1)) := rfl
      simp only [e1, decide_true, RSd.down, hb2, hbld, hsl]
      have hsrc : srcOf 2 (.slice h'.next 0 1 (.exact 1)) (h'.push (.cells [.int .i64 (d : Int), .int .i64 (j : Int)] true)) = some (1, [.int .i64 (d : Int), .int .i64 (j : Int)]) := by
        simp only [srcOf, cellsOf_push, Nat.one_mul, cut_cons, cut_zero]
        rfl
      have hbs : b.scalar = true := by
        rcases hv with ⟨e, _⟩ | ⟨j', e, _⟩ <;> subst e <;> rfl
      have hl0 := H'.l0
      have hl1 := H'.l1
      rcases hv with ⟨e2, e3⟩ | ⟨j', e2, e3, e4, e5, e6, e7⟩
      · subst e2; subst e3
        have ha : appV 2 16 .nils (.slice h'.next 0 1 (.exact 1)) (h'.push (.cells [.int .i64 (d : Int), .int .i64 (j : Int)] true)) = some (.slice (h'.next + 1) 0 1 (.opn 2), (h'.push (.cells [.int .i64 (d : Int), .int .i64 (j : Int)] true)).push (.cells [.int .i64 (d : Int), .int .i64 (j : Int)] true)) := by
          unfold appV; simp only [evalE, ev_lit, hsrc]
          rw [if_neg (by decide), if_pos (by decide)]; rfl
        have hg : ((h'.push (.cells [.int .i64 (d : Int), .int .i64 (j : Int)] true)).push (.cells [.int .i64 (d : Int), .int .i64 (j : Int)] true)).get i1 = some (.cells [.nils] true) := by
          rw [AHeap.get_push_lt _ _ (by rw [AHeap.next_push]; omega), AHeap.get_push_lt _ _ hl1]; exact hb
        simp only [ha, RSd.down]
        rw [store1 (v := .slice (h'.next + 1) 0 1 (.opn 2)) rfl hg rfl rfl]
        simp only [RSd.down]
        refine ⟨(fun i hi => by cases hi), _, rfl, rfl, n', j, a1, a2, a3, a4, ?_⟩
        rw [if_pos hj]
        refine ⟨by simp; omega, by simp; omega, H'.ne, ?_, .slice (h'.next + 1) 0 1 (.opn 2), AHeap.get_set_same _ _ _, .inr ⟨h'.next + 1, rfl, by simp, by simp, by omega, by omega, ?_⟩⟩
        · rw [AHeap.get_set_ne _ _ H'.ne, AHeap.get_push_lt _ _ (by rw [AHeap.next_push]; omega), AHeap.get_push_lt _ _ hl0]; exact H'.g0
        · rw [AHeap.get_set_ne _ _ (by omega)]
          exact AHeap.get_push_same (h'.push (.cells [.int .i64 (d : Int), .int .i64 (j : Int)] true)) _
      · subst e2
        have hown : ownOf (h'.push (.cells [.int .i64 (d : Int), .int .i64 (j : Int)] true)) j' = some (flat2 L) := by
          unfold ownOf; rw [AHeap.get_push_lt _ _ e4, e7]
        have hdr : drops (flat2 L) 0 = flat2 L := by cases flat2 L <;> rfl
        have hfl := flat2_len L
        have ha : appV 2 16 (.slice j' 0 L.length (.opn 2)) (.slice h'.next 0 1 (.exact 1)) (h'.push (.cells [.int .i64 (d : Int), .int .i64 (j : Int)] true)) = some (.slice (h'.next + 1) 0 (L.length + 1) (.opn 2), ((h'.push (.cells [.int .i64 (d : Int), .int .i64 (j : Int)] true)).del j').push (.cells (flat2 (L ++ [(d, j)])) true)) := by
          unfold appV; simp only [evalE, ev_lit, hsrc, hown]
          rw [if_pos ⟨trivial, by omega⟩, if_neg (by omega), if_pos (by omega), hdr, flat2_app]; rfl
        have hg : (((h'.push (.cells [.int .i64 (d : Int), .int .i64 (j : Int)] true)).del j').push (.cells (flat2 (L ++ [(d, j)])) true)).get i1 = some (.cells [.slice j' 0 L.length (.opn 2)] true) := by
          rw [AHeap.get_push_lt _ _ (by rw [AHeap.next_del, AHeap.next_push]; omega), AHeap.get_del_ne _ (by omega), AHeap.get_push_lt _ _ hl1]; exact hb
        simp only [ha, RSd.down]
        rw [store1 (v := .slice (h'.next + 1) 0 (L.length + 1) (.opn 2)) rfl hg rfl rfl]
        simp only [RSd.down]
        refine ⟨(fun i hi => by cases hi), _, rfl, rfl, n', j, a1, a2, a3, a4, ?_⟩
        rw [if_pos hj]
        refine ⟨by simp; omega, by simp; omega, H'.ne, ?_, .slice (h'.next + 1) 0 (L.length + 1) (.opn 2), AHeap.get_set_same _ _ _, .inr ⟨h'.next + 1, by simp, by simp, by simp, by omega, by omega, ?_⟩⟩
        · rw [AHeap.get_set_ne _ _ H'.ne, AHeap.get_push_lt _ _ (by rw [AHeap.next_del, AHeap.next_push]; omega), AHeap.get_del_ne _ (by omega), AHeap.get_push_lt _ _ hl0]; exact H'.g0
        · rw [AHeap.get_set_ne _ _ (by omega)]
          exact AHeap.get_push_same ((h'.push (.cells [.int .i64 (d : Int), .int .i64 (j : Int)] true)).del j') _
    · have e1 : ¬ (0 : Int) < (j : Int) := by omega
      simp only [e1, decide_false, RSd.down]
      refine ⟨(fun i hi => by cases hi), _, rfl, rfl, n', j, a1, a2, a3, a4, ?_⟩
      rw [if_neg hj]; exact H'
end Go.AM
namespace Go.AM
open Go
noncomputable def callV (C : CallT) (f : AV) (args : List AV) (h : AHeap) : Option (AV × AHeap) := evalE (.call (.lit f) (args.map .lit)) C [] h
theorem evs_lits : ∀ (args : List AV) (tm : List AV), evs tm (args.map .lit) = args
  | [], _ => rfl
  | x :: r, tm => by show x :: evs tm (r.map .lit) = _; rw [evs_lits r]
theorem evalE_callt {C : CallT} {tm : List AV} {h : AHeap} (t : Nat) (args : List AOpd) : evalE (.call (.tmp t) args) C tm h = callV C (nth tm t) (evs tm args) h := by
  unfold callV; simp only [evalE, evs_lits, ev_tmp, ev_lit]
theorem callV_fn {C : CallT} {g : Nat} {fs cs args : List AV} {h : AHeap} : callV C (.fn (.func g) fs cs) args h = C (.fn g) (fs ++ args ++ cs) h := by
  unfold callV; simp only [evalE, evs_lits, ev_lit]
theorem evalQ_mkfn {f : Fn} {fs cs : List AOpd} {tm : List AV} {h : AHeap} : evalQ (.mkfn f fs cs) tm h = some (.fn f (evs tm fs) (evs tm cs)) := rfl
theorem evalA_box {x : AOpd} {tm : List AV} {h : AHeap} : evalA (.box x) tm h = some (.cells (ev tm x).cells true, .ptr h.next 0) := rfl
theorem evalA_alloc {z : List AV} {tm : List AV} {h : AHeap} : evalA (.alloc z) tm h = some (.cells z true, .ptr h.next 0) := rfl

/-- what is known of a number's factors on the way -/
structure PInv (n0 n : Nat) (L : List (Nat × Nat)) : Prop where
  a : L = [] → n = n0
  b : ∀ q e, L = [(q, e)] → 1 ≤ e ∧ isP q ∧ n0 = q ^ e * n
  c : 2 ≤ L.length → ¬ isP n0
theorem PInv.step {n0 n n' d j : Nat} {L : List (Nat × Nat)} (H : PInv n0 n L) (hd : isP d) (hn : n = d ^ j * n') (hn' : 1 ≤ n') : PInv n0 n' (if 0 < j then L ++ [(d, j)] else L) := by
  by_cases hj : 0 < j
  · rw [if_pos hj]
    have h1 := hd.1
    have hdj : 2 ≤ d ^ j := Nat.le_trans h1 (Nat.le_self_pow (by omega) d)
    have hn2 : 2 ≤ n := by rw [hn]; exact Nat.le_trans (by omega) (Nat.mul_le_mul hdj hn')
    refine ⟨fun e => by simp at e, fun q e he => ?_, fun hl => ?_⟩
    · have hL : L = [] := by
        cases L with
        | nil => rfl
        | cons x r => simp at he
      subst hL
      simp at he
      obtain ⟨rfl, rfl⟩ := he
      exact ⟨hj, hd, by rw [← H.a rfl]; exact hn⟩
    · cases L with
      | nil => simp at hl
      | cons x r =>
        cases r with
        | cons y s => exact H.c (by simp)
        | nil =>
          obtain ⟨q, e⟩ := x
          obtain ⟨b1, b2, b3⟩ := H.b q e rfl
          intro hp
          have hq : q ∣ n0 := by rw [b3]; exact Nat.dvd_trans (Nat.dvd_trans ⟨q ^ (e - 1), by rw [← Nat.pow_succ']; congr 1; omega⟩ (Nat.dvd_mul_right _ n)) (Nat.dvd_refl _)
          have e1 := isP_dvd hp b2.1 hq
          have e2 : q ≤ q ^ e := Nat.le_self_pow (by omega) q
          have e3 : q * 2 ≤ q ^ e * n := Nat.mul_le_mul e2 hn2
          have := b2.1
          omega
  · rw [if_neg hj]
    have : j = 0 := by omega
    subst this
    have : n = n' := by rw [hn]; simp
    subst this
    exact H
theorem PInv.done {n0 : Nat} {L : List (Nat × Nat)} (H : PInv n0 1 L) : isP n0 ↔ ∃ q, L = [(q, 1)] := by
  constructor
  · intro hp
    cases L with
    | nil => have := H.a rfl; have := hp.1; omega
    | cons x r =>
      cases r with
      | cons y s => exact absurd hp (H.c (by simp))
      | nil =>
        obtain ⟨q, e⟩ := x
        obtain ⟨b1, b2, b3⟩ := H.b q e rfl
        rw [Nat.mul_one] at b3
        rcases Nat.lt_or_ge e 2 with h1 | h1
        · have : e = 1 := by omega
          subst this; exact ⟨q, rfl⟩
        · exfalso
          have hq : q ∣ n0 := by rw [b3]; exact ⟨q ^ (e - 1), by rw [← Nat.pow_succ']; congr 1; omega⟩
          have e1 := isP_dvd hp b2.1 hq
          have e2 : q ^ 2 ≤ q ^ e := Nat.pow_le_pow_right (by have := b2.1; omega) h1
          have e3 : q * 2 ≤ q * q := Nat.mul_le_mul_left q b2.1
          have e4 : q ^ 2 = q * q := Nat.pow_two q
          have := b2.1
          omega
  · rintro ⟨q, rfl⟩
    obtain ⟨b1, b2, b3⟩ := H.b q 1 rfl
    have : n0 = q := by rw [b3]; simp
    rw [this]; exact b2
theorem isP_of_dvd {d n : Nat} (hd : 2 ≤ d) (hN : NoDiv d n) (hdv : d ∣ n) : isP d :=
  ⟨hd, fun e h2 he hed => hN e h2 (by
    rcases Nat.lt_or_ge e d with h | h
    · exact h
    · have : d * d ≤ e * e := Nat.mul_le_mul h h
      have : d * 2 ≤ d * d := Nat.mul_le_mul_left d hd
      omega) (Nat.dvd_trans hed hdv)⟩
theorem NoDiv.of_dvd {d n n' : Nat} (h : NoDiv d n) (hd : n' ∣ n) : NoDiv d n' := fun e h2 he hx => h e h2 he (Nat.dvd_trans hx hd)
theorem PInv.step' {n0 n n' d j : Nat} {L : List (Nat × Nat)} (H : PInv n0 n L) (hd : 2 ≤ d) (hN : NoDiv d n) (hn : n = d ^ j * n') (hn' : 1 ≤ n') : PInv n0 n' (if 0 < j then L ++ [(d, j)] else L) := by
  by_cases hj : 0 < j
  · refine H.step (isP_of_dvd hd hN ?_) hn hn'
    rw [hn]; exact Nat.dvd_trans ⟨d ^ (j - 1), by rw [← Nat.pow_succ']; congr 1; omega⟩ (Nat.dvd_mul_right _ n')
  · rw [if_neg hj]
    have : j = 0 := by omega
    subst this
    have : n = n' := by rw [hn]; simp
    subst this
    exact H
theorem len_step {L : List (Nat × Nat)} {d j : Nat} : (if 0 < j then L ++ [(d, j)] else L).length ≤ L.length + 1 := by
  split <;> simp
section
variable {I : Oracle} {K : List Fr} {Q : AX → St → Prop}
noncomputable def facB : ACode := match of120.body with | .seq _ (.seq _ (.seq _ (.seq _ (.seq (.seq _ (.block _ (.loop b))) _)))) => b | c => c
theorem fac_loop (hI : ∀ a h, I 123 a h = none) {i0 i1 n0 : Nat} : ∀ (f d n : Nat) (L : List (Nat × Nat)) (h : AHeap) (y1 y2 : AV), 3 ≤ d → d % 2 = 1 → d + 2 * f = 401 → 1 ≤ n → n ≤ 100000 → L.length ≤ d → NoDiv d n → PInv n0 n L → FI h i0 i1 n L →
    (∀ (d' n' : Nat) (L' : List (Nat × Nat)) (h' : AHeap) (z0 z1 z2 : AV), n' < d' * d' → 1 ≤ n' → n' ≤ 100000 → L'.length ≤ 500 → NoDiv d' n' → PInv n0 n' L' → FI h' i0 i1 n' L' → WX (lim otab.get I) (.exit 0) K ⟨[z0, z1, z2, .ptr i0 0, .fn (.func 123) [] [.ptr i0 0, .ptr i1 0], .ptr i1 0], h'⟩ Q) →
    WK (lim otab.get I) (.loop facB) K ⟨[.int .i64 (d : Int), y1, y2, .ptr i0 0, .fn (.func 123) [] [.ptr i0 0, .ptr i1 0], .ptr i1 0], h⟩ Q := by
  intro f
  induction f with
  | zero =>
    intro d n L h y1 y2 hd hodd hf hn hn2 hL hN hP H hQ
    refine WK_loop' (by dsimp only [facB, of120]) ?_
    have e1 : (d : Int) * (d : Int) = ((d * d : Nat) : Int) := by rw [Int.natCast_mul]
    have hd2 : d = 401 := by omega
    subst hd2
    have hx := loadV_at (cellsOf_get H.g0) (x := .int .i64 (n : Int)) (o := 0) rfl
    have e2 : ¬ ((401 * 401 : Nat) : Int) ≤ (n : Int) := by omega
    simp (disch := omega) only [RSd.down, mul_i64, e1, hx, leq_int, e2, decide_false]
    exact hQ 401 n L h _ _ _ (by omega) hn hn2 (by omega) hN hP H
  | succ f ih =>
    intro d n L h y1 y2 hd hodd hf hn hn2 hL hN hP H hQ
    refine WK_loop' (by dsimp only [facB, of120]) ?_
    have e1 : (d : Int) * (d : Int) = ((d * d : Nat) : Int) := by rw [Int.natCast_mul]
    have hdd : d * d ≤ 401 * 401 := Nat.mul_le_mul (by omega) (by omega)
    have hx := loadV_at (cellsOf_get H.g0) (x := .int .i64 (n : Int)) (o := 0) rfl
    by_cases hle : d * d ≤ n
    · have e2 : ((d * d : Nat) : Int) ≤ (n : Int) := by omega
      obtain ⟨n', j, h', a1, a2, a3, a4, a5, a6⟩ := try_spec hI (d := d) (by omega) (by omega) hn hn2 (by omega) H
      simp (disch := omega) only [RSd.down, mul_i64, e1, hx, leq_int, e2, decide_true, evalE_callt, callV_fn, List.nil_append, List.cons_append, a6, add_i64, show (d : Int) + 2 = ((d + 2 : Nat) : Int) from rfl]
      have hdvd : n' ∣ n := by rw [a1]; exact Nat.dvd_mul_left _ _
      refine ih (d + 2) n' _ h' _ _ (by omega) (by omega) (by omega) a3 (by omega) (Nat.le_trans len_step (by omega)) ?_ (hP.step' (by omega) hN a1 a3) a5 hQ
      intro e h2 he hx
      rcases Nat.lt_or_ge e d with h3 | h3
      · exact hN e h2 h3 (Nat.dvd_trans hx hdvd)
      · rcases Nat.lt_or_ge d e with h4 | h4
        · have : e = d + 1 := by omega
          subst this
          exact hN 2 (by omega) (by omega) (Nat.dvd_trans (Nat.dvd_trans ⟨(d + 1) / 2, by omega⟩ hx) hdvd)
        · have : e = d := by omega
          subst this; exact a2 hx
    · have e2 : ¬ ((d * d : Nat) : Int) ≤ (n : Int) := by omega
      simp (disch := omega) only [RSd.down, mul_i64, e1, hx, leq_int, e2, decide_false]
      exact hQ d n L h _ _ _ (by omega) hn hn2 (by omega) hN hP H
end
theorem factor_spec {I : Oracle} (hI : ∀ a h, I 123 a h = none) (hI2 : ∀ a h, I 120 a h = none) {n0 : Nat} (h1 : 1 ≤ n0) (h2 : n0 ≤ 100000) (h : AHeap) :
    ∃ b h', lim otab.get I (.fn 120) [.int .i64 (n0 : Int)] h = some (b, h') ∧ ∃ L : List (Nat × Nat), ((b = .nils ∧ L = []) ∨ ∃ j, b = .slice j 0 L.length (.opn 2) ∧ L ≠ [] ∧ cellsOf h' j = some (flat2 L)) ∧ (isP n0 ↔ ∃ q, L = [(q, 1)]) := by
  refine lim_walk_ex (T := otab.get) (I := I) (fn := of120) (f := 120) rfl (P := fun b h' => ∃ L : List (Nat × Nat), ((b = .nils ∧ L = []) ∨ ∃ j, b = .slice j 0 L.length (.opn 2) ∧ L ≠ [] ∧ cellsOf h' j = some (flat2 L)) ∧ (isP n0 ↔ ∃ q, L = [(q, 1)])) (hI2 _ _) ?_
  show WK _ _ [] ⟨[.int .i64 (n0 : Int), aundef, aundef, aundef, aundef, aundef], h⟩ _
  dsimp only [of120]
  have hbox : (AV.int .i64 (n0 : Int)).cells = [.int .i64 (n0 : Int)] := rfl
  simp only [RSd.down, WOs_box, evalA_box, hbox, evalA_alloc, WOs_mkfn, evalQ_mkfn, evalE_callt, callV_fn, List.nil_append, List.cons_append]
  have H0 : FI ((h.push (.cells [.int .i64 (n0 : Int)] true)).push (.cells [.nils] true)) h.next (h.push (.cells [.int .i64 (n0 : Int)] true)).next n0 [] := by
    refine ⟨by simp; omega, by simp, by simp, ?_, .nils, AHeap.get_push_same _ _, .inl ⟨rfl, rfl⟩⟩
    rw [AHeap.get_push_lt _ _ (by simp)]; exact AHeap.get_push_same _ _
  obtain ⟨n', j, h', a1, a2, a3, a4, a5, a6⟩ := try_spec hI (d := 2) (by omega) (by omega) h1 h2 (by simp) H0
  have a6' : lim otab.get I (.fn 123) [.int .i64 2, .ptr h.next 0, .ptr (h.push (.cells [.int .i64 (n0 : Int)] true)).next 0] ((h.push (.cells [.int .i64 (n0 : Int)] true)).push (.cells [.nils] true)) = some (.tup [], h') := a6
  simp only [a6', RSd.down]
  have hP0 : PInv n0 n0 [] := ⟨(fun _ => rfl), (fun q e he => by cases he), (fun hl => by simp at hl)⟩
  have hP1 := hP0.step' (d := 2) (Nat.le_refl 2) (fun e g1 g2 => by omega) a1 a3
  generalize (h.push (.cells [.int .i64 (n0 : Int)] true)).next = i1 at a5 a6 a6' ⊢
  generalize h.next = i0 at a5 a6 a6' ⊢
  refine fac_loop (n0 := n0) hI 199 3 n' _ h' _ _ (by omega) (by omega) rfl a3 (by omega) (Nat.le_trans len_step (by simp)) ?_ hP1 a5 ?_
  · intro e g1 g2 hx
    have : e = 2 := by omega
    subst this; exact a2 hx
  · intro d' n2 L' h2' z0 z1 z2 b1 b2 b3 b4 b5 b6 b7
    have hx := loadV_at (cellsOf_get b7.g0) (x := .int .i64 (n2 : Int)) (o := 0) rfl
    have fin : ∀ (L2 : List (Nat × Nat)) (h3 : AHeap) (y0 y1 y2 y3 y4 : AV), PInv n0 1 L2 → FI h3 i0 i1 1 L2 → WOs (lim otab.get I) [⟨some 0, .load none (.tmp 5), none⟩, ⟨some 0, .mov (.tmp 0), none⟩] [.seq .ret] ⟨[y0, y1, y2, y3, y4, .ptr i1 0], h3⟩ fun x s => (∀ i, x ≠ .exit i) ∧ ∃ v, result of120.res s.tm s.h = some v ∧ ∃ L : List (Nat × Nat), ((v = .nils ∧ L = []) ∨ ∃ j, v = .slice j 0 L.length (.opn 2) ∧ L ≠ [] ∧ cellsOf s.h j = some (flat2 L)) ∧ (isP n0 ↔ ∃ q, L = [(q, 1)]) := by
      intro L2 h3 y0 y1 y2 y3 y4 c1 c2
      obtain ⟨b, hb, hv⟩ := c2.g1
      have hy := loadV_at (cellsOf_get hb) (x := b) (o := 0) rfl
      simp only [RSd.down, hy]
      refine ⟨(fun i hi => by cases hi), b, rfl, L2, ?_, c1.done⟩
      rcases hv with hv | ⟨j', q1, q2, q3, q4, q5, q6⟩
      · exact .inl hv
      · exact .inr ⟨j', q1, q2, cellsOf_get q6⟩
    by_cases hgt : 1 < n2
    · have e1 : (1 : Int) < (n2 : Int) := by omega
      obtain ⟨n3, j3, h3, c1, c2, c3, c4, c5, c6⟩ := try_spec hI (d := n2) (by omega) b3 b2 b3 (by omega) b7
      have hp : isP n2 := isP_of_noDiv b5 b1 hgt
      have hj : j3 ≠ 0 := by
        intro e; subst e
        rw [Nat.pow_zero, Nat.one_mul] at c1
        exact c2 (by rw [← c1]; exact Nat.dvd_refl _)
      have hn3 : n3 = 1 := by
        have e2 : n2 ≤ n2 ^ j3 := Nat.le_self_pow hj n2
        have e3 : n2 * n3 ≤ n2 ^ j3 * n3 := Nat.mul_le_mul_right n3 e2
        rw [← c1] at e3
        rcases Nat.lt_or_ge 1 n3 with e4 | e4
        · have : n2 * 2 ≤ n2 * n3 := Nat.mul_le_mul_left n2 e4
          omega
        · omega
      have c7 := b6.step hp c1 c3
      rw [hn3] at c5 c7
      simp only [RSd.down, hx, gtr_int, e1, decide_true, evalE_callt, callV_fn, List.nil_append, List.cons_append, c6]
      exact (WOs_load _ _).1 (fin _ _ _ _ _ _ _ c7 c5)
    · have e1 : ¬ (1 : Int) < (n2 : Int) := by omega
      have : n2 = 1 := by omega
      subst this
      simp only [RSd.down, hx, gtr_int, e1, decide_false]
      exact (WOs_load _ _).1 (fin _ _ _ _ _ _ _ b6 b7)

/-- the program's bad: is a number no modulus? -/
theorem bad_spec {I : Oracle} (hI1 : ∀ a h, I 104 a h = none) (hI2 : ∀ a h, I 118 a h = none) (hI3 : ∀ a h, I 122 a h = none) (hI4 : ∀ a h, I 119 a h = none) {n : Int} (hn : -100000 ≤ n) (hn2 : n ≤ 100000) {h : AHeap} {i : Nat} {cap : ACap} (hc : cellsOf h i = some [.int .i64 n]) :
    lim otab.get I (.fn 104) [.slice i 0 1 cap] h = some (.bool (decide (n < 1)), h) := by
  have s119 : lim otab.get I (.fn 119) [.int .i64 n] h = some (.bool (decide (n < 1)), h) := by
    refine runH (fn := of119) rfl (hI4 _ _) ?_
    show WK _ _ [] ⟨[.int .i64 n, aundef], h⟩ _
    dsimp only [of119]
    have e2 : ¬ (2147483647 : Int) < n := by omega
    by_cases e1 : n < 1
    · simp only [RSd.down, lss_int, gtr_int, e1, decide_true, RetH_ret, result_1, and_self]
    · simp only [RSd.down, lss_int, gtr_int, e1, e2, decide_false, RetH_ret, result_1, and_self]
  have s122 : lim otab.get I (.fn 122) [.slice i 0 1 cap, .fn (.func 119) [] []] h = some (.int .i64 (if n < 1 then 0 else -1), h) := by
    refine runH (fn := of122) rfl (hI3 _ _) ?_
    show WK _ _ [] ⟨[.slice i 0 1 cap, .fn (.func 119) [] [], aundef, aundef, aundef], h⟩ _
    dsimp only [of122]
    have hx : loadV none (.ptr i 0) h = some (.int .i64 n) := loadV_at hc rfl
    have hi : iaddrV 1 (.slice i 0 1 cap) (.int .i64 0) = some (.ptr i 0) := rfl
    have l01 : decide ((0 : Int) < ((1 : Nat) : Int)) = true := rfl
    have l11 : decide ((1 : Int) < ((1 : Nat) : Int)) = false := rfl
    simp only [RSd.down, AM.lenV]
    refine WK_loop ?_
    by_cases e1 : n < 1
    · simp only [RSd.down, lss_int, l01, hi, hx, evalE_callt, callV_fn, List.nil_append, List.append_nil, s119, e1, decide_true, RetH_ret, result_1, if_true, and_self]
    · simp (disch := omega) only [RSd.down, lss_int, l01, hi, hx, evalE_callt, callV_fn, List.nil_append, List.append_nil, s119, e1, decide_false, add_i64, show (0 : Int) + 1 = 1 from rfl]
      refine WK_loop ?_
      simp only [RSd.down, lss_int, l11, RetH_ret, result_1, if_false, and_self]
  have s118 : lim otab.get I (.fn 118) [.slice i 0 1 cap, .fn (.func 119) [] []] h = some (.bool (decide (n < 1)), h) := by
    refine runH (fn := of118) rfl (hI2 _ _) ?_
    show WK _ _ [] ⟨[.slice i 0 1 cap, .fn (.func 119) [] [], aundef], h⟩ _
    dsimp only [of118]
    by_cases e1 : n < 1
    · simp only [RSd.down, s122, e1, if_true, geq_int, Int.le_refl, decide_true, RetH_ret, result_1, and_self]
    · simp only [RSd.down, s122, e1, if_false, geq_int, show decide ((0 : Int) ≤ -1) = false from rfl, decide_false, RetH_ret, result_1, and_self]
  refine runH (fn := of104) rfl (hI1 _ _) ?_
  show WK _ _ [] ⟨[.slice i 0 1 cap, aundef], h⟩ _
  dsimp only [of104]
  simp only [RSd.down, s118, RetH_ret, result_1, and_self]

noncomputable def primeS : List AV → Option AV
  | [.int .i64 n] => if 1 ≤ n ∧ n ≤ 100000 then some (.bool (isPB n.toNat)) else none
  | _ => none
theorem prime_run {n : Nat} (h1 : 1 ≤ n) (h2 : n ≤ 100000) : ∃ h', lim otab.get I13 (.fn 105) [.int .i64 (n : Int)] .empty = some (.bool (isPB n), h') := by
  refine run_of (fn := of105) rfl rfl ?_
  show WK _ _ [] ⟨[.int .i64 (n : Int), aundef], .empty⟩ _
  dsimp only [of105]
  obtain ⟨b, h', e, L, hb, hp⟩ := factor_spec (I := I13) (fun _ _ => rfl) (fun _ _ => rfl) h1 h2 .empty
  simp only [RSd.down, e]
  rcases hb with ⟨rfl, rfl⟩ | ⟨j, rfl, hL, hc⟩
  · have hf : ¬ isP n := by
      intro hq; obtain ⟨q, hq⟩ := hp.1 hq; cases hq
    simp only [AM.lenV, RSd.down, eql_int, show ((0 : Int) = 1) = False from by simp, decide_false, Ret_ret, result_1, isPB_false hf]
  · cases L with
    | nil => exact absurd rfl hL
    | cons x r =>
      obtain ⟨q, k⟩ := x
      cases r with
      | cons y s =>
        have hf : ¬ isP n := by
          intro hq; obtain ⟨q, hq⟩ := hp.1 hq; cases hq
        have hl : ¬ ((((q, k) :: y :: s).length : Nat) : Int) = 1 := by simp; omega
        simp only [AM.lenV, RSd.down, eql_int, hl, decide_false, Ret_ret, result_1, isPB_false hf]
      | nil =>
        have hl : ((([(q, k)] : List (Nat × Nat)).length : Nat) : Int) = 1 := rfl
        have hi : iaddrV 2 (.slice j 0 ([(q, k)] : List (Nat × Nat)).length (.opn 2)) (.int .i64 0) = some (.ptr j 0) := rfl
        have hfa : ∀ tm : List AV, nth tm 1 = .ptr j 0 → evalQ (.faddr 1 (.tmp 1)) tm h' = some (.ptr j 1) := by
          intro tm ht; simp only [evalQ, ev_tmp, ht, Nat.zero_add]
        have hx : loadV none (.ptr j 1) h' = some (.int .i64 (k : Int)) := loadV_at hc rfl
        simp only [AM.lenV, RSd.down, eql_int, hl, decide_true, hi, WOs_faddr]
        rw [hfa _ rfl]
        simp only [RSd.down, hx, eql_int, Ret_ret, result_1]
        by_cases hk : k = 1
        · subst hk
          have : isP n := hp.2 ⟨q, rfl⟩
          simp only [isPB_true this]; rfl
        · have hf : ¬ isP n := by
            intro hq; obtain ⟨q', hq⟩ := hp.1 hq; cases hq; exact hk rfl
          have : ¬ (k : Int) = 1 := by omega
          simp only [isPB_false hf, this, decide_false]
noncomputable def I14 : Oracle := ext I13 105 primeS
theorem I14_ok : IOK Go.Proofs.Try.prog I14 := IOK.extL mixed tabOK otabOK I13_ok (g := 105) (fn := af105) rfl fun args av h => by
  unfold primeS at h
  split at h
  · split at h
    · rename_i n hn
      cases h
      obtain ⟨m, rfl⟩ := Int.eq_ofNat_of_zero_le (show 0 ≤ n by omega)
      exact ⟨rfl, rfl, prime_run (by omega) (by omega)⟩
    · cases h
  · cases h
noncomputable def isPrimeV (n : Int) : AV := if n < 1 then .tup [.bool false, .int .i64 3] else .tup [.bool (isPB n.toNat), .int .i64 0]
noncomputable def isPrimeS : List AV → Option AV
  | [.int .i64 n] => if -100000 ≤ n ∧ n ≤ 100000 then some (isPrimeV n) else none
  | _ => none
theorem isPrime_run {n : Int} (h1 : -100000 ≤ n) (h2 : n ≤ 100000) : ∃ h', lim otab.get I14 (.fn 83) [.int .i64 n] .empty = some (isPrimeV n, h') := by
  refine run_of (fn := of83) rfl rfl ?_
  show WK _ _ [] ⟨[.int .i64 n, aundef, aundef], .empty⟩ _
  dsimp only [of83]
  simp only [RSd.down]
  rw [bslice1 (v := .int .i64 n) rfl rfl]
  have hb : lim otab.get I14 (.fn 104) [.slice 0 0 1 (.exact 1)] (AHeap.empty.push (.cells [.int .i64 n] true)) = some (.bool (decide (n < 1)), AHeap.empty.push (.cells [.int .i64 n] true)) :=
    bad_spec (fun _ _ => rfl) (fun _ _ => rfl) (fun _ _ => rfl) (fun _ _ => rfl) h1 h2 (cellsOf_push (h := .empty))
  simp only [RSd.down, hb]
  unfold isPrimeV
  by_cases e : n < 1
  · simp only [e, decide_true, RSd.down, Ret_ret, result_2, if_true]
  · have hp : ∀ h, lim otab.get I14 (.fn 105) [.int .i64 n] h = some (.bool (isPB n.toNat), h) := fun h => lim_oracle (or_hit (spec := primeS) (if_pos ⟨by omega, h2⟩))
    simp only [e, decide_false, RSd.down, hp, Ret_ret, result_2, if_false]
noncomputable def I15 : Oracle := ext I14 83 isPrimeS
theorem I15_ok : IOK Go.Proofs.Try.prog I15 := IOK.extL mixed tabOK otabOK I14_ok (g := 83) (fn := af83) rfl fun args av h => by
  unfold isPrimeS at h
  split at h
  · split at h
    · rename_i hn
      cases h
      refine ⟨rfl, ?_, isPrime_run hn.1 hn.2⟩
      unfold isPrimeV; split <;> rfl
    · cases h
  · cases h
/-- the error of a number that must be a prime -/
noncomputable def prE (n : Int) : Int := if 1 ≤ n ∧ isPB n.toNat = true then 0 else 7
noncomputable def qprimeS : List AV → Option AV
  | [.int .i64 n] => if -100000 ≤ n ∧ n ≤ 100000 then some (.int .i64 (prE n)) else none
  | _ => none
theorem qprime_run {n : Int} (h1 : -100000 ≤ n) (h2 : n ≤ 100000) : ∃ h', lim otab.get I15 (.fn 61) [.int .i64 n] .empty = some (.int .i64 (prE n), h') := by
  refine run_of (fn := of61) rfl rfl ?_
  show WK _ _ [] ⟨[.int .i64 n, aundef], .empty⟩ _
  dsimp only [of61]
  have hp : ∀ h, lim otab.get I15 (.fn 83) [.int .i64 n] h = some (isPrimeV n, h) := fun h => lim_oracle (or_hit (spec := isPrimeS) (if_pos ⟨h1, h2⟩))
  unfold prE
  by_cases e : n < 1
  · have e2 : ¬ (1 ≤ n ∧ isPB n.toNat = true) := by omega
    simp only [RSd.down, hp, isPrimeV, e, if_true, neq_int, ne_eq, show ((3 : Int) = 0) = False from by simp, not_false_eq_true, decide_true, Ret_ret, result_1, e2, if_false]
  · have e1 : 1 ≤ n := by omega
    cases hb : isPB n.toNat with
    | true => simp only [RSd.down, hp, isPrimeV, e, if_false, hb, neq_int, ne_eq, not_true_eq_false, decide_false, not_bool, Bool.not_true, Ret_ret, result_1, e1, and_self, if_true]
    | false => simp only [RSd.down, hp, isPrimeV, e, if_false, hb, neq_int, ne_eq, not_true_eq_false, decide_false, not_bool, Bool.not_false, Ret_ret, result_1, e1, Bool.false_eq_true, and_false, if_false]
noncomputable def I16 : Oracle := ext I15 61 qprimeS
theorem I16_ok : IOK Go.Proofs.Try.prog I16 := IOK.extL mixed tabOK otabOK I15_ok (g := 61) (fn := af61) rfl fun args av h => by
  unfold qprimeS at h
  split at h
  · split at h
    · rename_i hn; cases h; exact ⟨rfl, rfl, qprime_run hn.1 hn.2⟩
    · cases h
  · cases h
end Go.AM
