/- The program's factors: the closure that draws out a prime, and the search. No condition. -/
import Derived.Test.YtemmnocgkgoegaaPr
set_option maxRecDepth 100000
set_option linter.unusedSimpArgs false
namespace Go.AM
open Go
/-- pairs as cells -/
def flat2 : List (Nat × Nat) → List AV
  | [] => []
  | (p, e) :: r => .int .i64 (p : Int) :: .int .i64 (e : Int) :: flat2 r
theorem flat2_app : ∀ (l : List (Nat × Nat)) (p e : Nat), flat2 (l ++ [(p, e)]) = flat2 l ++ [.int .i64 (p : Int), .int .i64 (e : Int)]
  | [], _, _ => rfl
  | (a, b) :: r, p, e => by show _ :: _ :: flat2 (r ++ [(p, e)]) = _; rw [flat2_app r p e]; rfl
theorem flat2_len : ∀ l : List (Nat × Nat), (flat2 l).length = 2 * l.length
  | [] => rfl
  | (a, b) :: r => by show (flat2 r).length + 2 = _; rw [flat2_len r]; simp; omega
/-- two cells that the closure shares with its maker: a number, and the list made so far -/
structure FI (h : AHeap) (i0 i1 : Nat) (n : Nat) (L : List (Nat × Nat)) : Prop where
  l0 : i0 < h.next
  l1 : i1 < h.next
  ne : i0 ≠ i1
  g0 : h.get i0 = some (.cells [.int .i64 (n : Int)] true)
  g1 : ∃ b, h.get i1 = some (.cells [b] true) ∧ ((b = .nils ∧ L = []) ∨ ∃ j, b = .slice j 0 L.length (.opn 2) ∧ L ≠ [] ∧ j < h.next ∧ j ≠ i0 ∧ j ≠ i1 ∧ h.get j = some (.cells (flat2 L) true))
theorem store1 {C : CallT} {tm : List AV} {h : AHeap} {a x : AOpd} {i : Nat} {v w : AV} (ha : ev tm a = .ptr i 0) (hg : h.get i = some (.cells [w] true)) (hx : ev tm x = v) (hv : v.scalar = true) : evalE (.store 1 a x) C tm h = some (aundef, h.set i (.cells [v] true)) := by
  have hc : v.cells = [v] := by cases v <;> simp_all [AV.cells, AV.scalar]
  have ho : ownOf h i = some [w] := by unfold ownOf; rw [hg]
  have hl : lay [w] 0 [v] = some [v] := by rw [lay_cons, lay_zero]
  simp only [evalE, ha, ho, hx, hc]
  rw [if_pos ⟨rfl, by simp [hv]⟩, hl]
theorem FI.set {h : AHeap} {i0 i1 n : Nat} {L : List (Nat × Nat)} (H : FI h i0 i1 n L) (m : Nat) : FI (h.set i0 (.cells [.int .i64 (m : Int)] true)) i0 i1 m L := by
  obtain ⟨b, hb, hv⟩ := H.g1
  refine ⟨H.l0, H.l1, H.ne, AHeap.get_set_same _ _ _, b, ?_, ?_⟩
  · rw [AHeap.get_set_ne _ _ (Ne.symm H.ne)]; exact hb
  · rcases hv with hv | ⟨j, e1, e2, e3, e4, e5, e6⟩
    · exact .inl hv
    · exact .inr ⟨j, e1, e2, e3, e4, e5, by rw [AHeap.get_set_ne _ _ e4]; exact e6⟩
section
variable {C : CallT} {K : List Fr} {Q : AX → St → Prop}
noncomputable def tryB : ACode := match of123.body with | .seq _ (.seq (.block _ (.loop b)) _) => b | c => c
theorem try_loop {i0 i1 d : Nat} {L : List (Nat × Nat)} (hd : 2 ≤ d) (hd2 : d ≤ 100000) : ∀ (f n k : Nat) (h : AHeap) (y4 : AV), 1 ≤ n → n < 2 ^ f → n ≤ 100000 → k ≤ 100000 - n → FI h i0 i1 n L →
    (∀ (h' : AHeap) (n' j : Nat) (z4 : AV), n = d ^ j * n' → ¬ d ∣ n' → 1 ≤ n' → n' ≤ n → k + j ≤ 100000 → FI h' i0 i1 n' L → WX C (.exit 0) K ⟨[.int .i64 (d : Int), .ptr i0 0, .ptr i1 0, .int .i64 ((k + j : Nat) : Int), z4], h'⟩ Q) →
    WK C (.loop tryB) K ⟨[.int .i64 (d : Int), .ptr i0 0, .ptr i1 0, .int .i64 (k : Int), y4], h⟩ Q
  | 0, n, k, h, y4, hn, hf, _, _, _, _ => by simp at hf; omega
  | f + 1, n, k, h, y4, hn, hf, hn2, hk, H, hQ => by
    refine WK_loop' (by dsimp only [tryB, of123]) ?_
    have hc : cellsOf h i0 = some [.int .i64 (n : Int)] := cellsOf_get H.g0
    have hx : ([.int .i64 (n : Int)] : List AV)[0]? = some (.int .i64 (n : Int)) := rfl
    by_cases hdv : d ∣ n
    · obtain ⟨q, rfl⟩ := hdv
      have hq : 1 ≤ q := by
        rcases Nat.eq_zero_or_pos q with e | e
        · subst e; omega
        · exact e
      have hdq : 2 * q ≤ d * q := Nat.mul_le_mul_right q hd
      have e1 : (((d * q : Nat)) : Int) % (d : Int) = 0 := by rw [Int.natCast_mul]; exact Int.mul_emod_right _ _
      have e2 : (((d * q : Nat)) : Int) / (d : Int) = (q : Int) := by rw [Int.natCast_mul]; exact Int.mul_ediv_cancel_left _ (by omega)
      simp (disch := omega) only [RSd.down, loadV_at hc hx, rem_pos, e1, eql_int, decide_true, quo_pos, e2]
      rw [store1 (v := .int .i64 (q : Int)) rfl H.g0 rfl rfl]
      simp (disch := omega) only [RSd.down, add_i64, show (k : Int) + 1 = ((k + 1 : Nat) : Int) from rfl]
      refine try_loop hd hd2 f q (k + 1) _ _ hq (by rw [Nat.pow_succ] at hf; omega) (by omega) (by omega) (H.set q) ?_
      intro h' n' j z4 a1 a2 a3 a4 a5 a6
      have := hQ h' n' (j + 1) z4 (by rw [a1, Nat.pow_succ, Nat.mul_comm (d ^ j) d, Nat.mul_assoc]) a2 a3 (by omega) (by omega) a6
      rw [show k + 1 + j = k + (j + 1) by omega]
      exact this
    · have e1 : ¬ (n : Int) % (d : Int) = 0 := by
        intro e; exact hdv (Nat.dvd_of_mod_eq_zero (by omega))
      simp (disch := omega) only [RSd.down, loadV_at hc hx, rem_pos, e1, eql_int, decide_false]
      have := hQ h n 0 (.bool false) (by simp) hdv hn (Nat.le_refl _) (by omega) H
      exact this
end
/-- the call of the closure -/
theorem try_spec {I : Oracle} (hI : ∀ a h, I 123 a h = none) {h : AHeap} {i0 i1 d n : Nat} {L : List (Nat × Nat)} (hd : 2 ≤ d) (hd2 : d ≤ 100000) (hn : 1 ≤ n) (hn2 : n ≤ 100000) (hL : L.length ≤ 1000) (H : FI h i0 i1 n L) :
    ∃ n' j h', n = d ^ j * n' ∧ ¬ d ∣ n' ∧ 1 ≤ n' ∧ n' ≤ n ∧ FI h' i0 i1 n' (if 0 < j then L ++ [(d, j)] else L) ∧ lim otab.get I (.fn 123) [.int .i64 (d : Int), .ptr i0 0, .ptr i1 0] h = some (.tup [], h') := by
  have key := lim_walk_ex (T := otab.get) (I := I) (fn := of123) (f := 123) rfl (a := [.int .i64 (d : Int), .ptr i0 0, .ptr i1 0]) (h := h)
    (P := fun v h' => v = .tup [] ∧ ∃ n' j, n = d ^ j * n' ∧ ¬ d ∣ n' ∧ 1 ≤ n' ∧ n' ≤ n ∧ FI h' i0 i1 n' (if 0 < j then L ++ [(d, j)] else L)) (hI _ _) ?_
  · obtain ⟨v, h', e, rfl, n', j, a1, a2, a3, a4, a5⟩ := key
    exact ⟨n', j, h', a1, a2, a3, a4, a5, e⟩
  · show WK _ _ [] ⟨[.int .i64 (d : Int), .ptr i0 0, .ptr i1 0, aundef, aundef], h⟩ _
    dsimp only [of123]
    simp only [RSd.down]
    refine try_loop hd hd2 17 n 0 h _ hn (by omega) hn2 (by omega) H ?_
    intro h' n' j z4 a1 a2 a3 a4 a5 H'
    rw [Nat.zero_add] at a5 ⊢
    simp only [RSd.down, gtr_int]
    by_cases hj : 0 < j
    · have e1 : (0 : Int) < (j : Int) := by omega
      obtain ⟨b, hb, hv⟩ := H'.g1
      have hb2 : loadV none (.ptr i1 0) h' = some b := loadV_at (cellsOf_get hb) rfl
      have hbld : evalQ (.build [.int .i64 0, .int .i64 0] [(0, 1, .tmp 0), (1, 1, .tmp 3)]) [.int .i64 (d : Int), b, .ptr i1 0, .int .i64 (j : Int), z4] h' = some (.agg [.int .i64 (d : Int), .int .i64 (j : Int)]) := rfl
      have hsl : evalA (.bslice 1 2 [.int .i64 0, .int .i64 0] [(0, .tmp 0)]) [.agg [.int .i64 (d : Int), .int .i64 (j : Int)], b, .ptr i1 0, .int .i64 (j : Int), z4] h' = some (.cells [.int .i64 (d : Int), .int .i64 (j : Int)] true, .slice h'.next 0 1 (.exact 1)) := rfl
      simp only [e1, decide_true, RSd.down, hb2, hbld, hsl]
      have hsrc : srcOf 2 (.slice h'.next 0 1 (.exact 1)) (h'.push (.cells [.int .i64 (d : Int), .int .i64 (j : Int)] true)) = some (1, [.int .i64 (d : Int), .int .i64 (j : Int)]) := by
        simp only [srcOf, cellsOf_push, Nat.one_mul, cut_cons, cut_zero]
        rfl
      have hbs : b.scalar = true := by
        rcases hv with ⟨e, _⟩ | ⟨j', e, _⟩ <;> subst e <;> rfl
      have hl0 := H'.l0
      have hl1 := H'.l1
      rcases hv with ⟨e2, e3⟩ | ⟨j', e2, e3, e4, e5, e6, e7⟩
      · subst e2; subst e3
        have ha : appV 2 16 .nils (.slice h'.next 0 1 (.exact 1)) (h'.push (.cells [.int .i64 (d : Int), .int .i64 (j : Int)] true)) = some (.slice (h'.next + 1) 0 1 (.opn 2), (h'.push (.cells [.int .i64 (d : Int), .int .i64 (j : Int)] true)).push (.cells [.int .i64 (d : Int), .int .i64 (j : Int)] true)) := by
          unfold appV; simp only [evalE, ev_lit, hsrc]
          rw [if_neg (by decide), if_pos (by decide)]; rfl
        have hg : ((h'.push (.cells [.int .i64 (d : Int), .int .i64 (j : Int)] true)).push (.cells [.int .i64 (d : Int), .int .i64 (j : Int)] true)).get i1 = some (.cells [.nils] true) := by
          rw [AHeap.get_push_lt _ _ (by rw [AHeap.next_push]; omega), AHeap.get_push_lt _ _ hl1]; exact hb
        simp only [ha, RSd.down]
        rw [store1 (v := .slice (h'.next + 1) 0 1 (.opn 2)) rfl hg rfl rfl]
        simp only [RSd.down]
        refine ⟨(fun i hi => by cases hi), _, rfl, rfl, n', j, a1, a2, a3, a4, ?_⟩
        rw [if_pos hj]
        refine ⟨by simp; omega, by simp; omega, H'.ne, ?_, .slice (h'.next + 1) 0 1 (.opn 2), AHeap.get_set_same _ _ _, .inr ⟨h'.next + 1, rfl, by simp, by simp, by omega, by omega, ?_⟩⟩
        · rw [AHeap.get_set_ne _ _ H'.ne, AHeap.get_push_lt _ _ (by rw [AHeap.next_push]; omega), AHeap.get_push_lt _ _ hl0]; exact H'.g0
        · rw [AHeap.get_set_ne _ _ (by omega)]
          exact AHeap.get_push_same (h'.push (.cells [.int .i64 (d : Int), .int .i64 (j : Int)] true)) _
      · subst e2
        have hown : ownOf (h'.push (.cells [.int .i64 (d : Int), .int .i64 (j : Int)] true)) j' = some (flat2 L) := by
          unfold ownOf; rw [AHeap.get_push_lt _ _ e4, e7]
        have hdr : drops (flat2 L) 0 = flat2 L := by cases flat2 L <;> rfl
        have hfl := flat2_len L
        have ha : appV 2 16 (.slice j' 0 L.length (.opn 2)) (.slice h'.next 0 1 (.exact 1)) (h'.push (.cells [.int .i64 (d : Int), .int .i64 (j : Int)] true)) = some (.slice (h'.next + 1) 0 (L.length + 1) (.opn 2), ((h'.push (.cells [.int .i64 (d : Int), .int .i64 (j : Int)] true)).del j').push (.cells (flat2 (L ++ [(d, j)])) true)) := by
          unfold appV; simp only [evalE, ev_lit, hsrc, hown]
          rw [if_pos ⟨trivial, by omega⟩, if_neg (by omega), if_pos (by omega), hdr, flat2_app]; rfl
        have hg : (((h'.push (.cells [.int .i64 (d : Int), .int .i64 (j : Int)] true)).del j').push (.cells (flat2 (L ++ [(d, j)])) true)).get i1 = some (.cells [.slice j' 0 L.length (.opn 2)] true) := by
          rw [AHeap.get_push_lt _ _ (by rw [AHeap.next_del, AHeap.next_push]; omega), AHeap.get_del_ne _ (by omega), AHeap.get_push_lt _ _ hl1]; exact hb
        simp only [ha, RSd.down]
        rw [store1 (v := .slice (h'.next + 1) 0 (L.length + 1) (.opn 2)) rfl hg rfl rfl]
        simp only [RSd.down]
        refine ⟨(fun i hi => by cases hi), _, rfl, rfl, n', j, a1, a2, a3, a4, ?_⟩
        rw [if_pos hj]
        refine ⟨by simp; omega, by simp; omega, H'.ne, ?_, .slice (h'.next + 1) 0 (L.length + 1) (.opn 2), AHeap.get_set_same _ _ _, .inr ⟨h'.next + 1, by simp, by simp, by simp, by omega, by omega, ?_⟩⟩
        · rw [AHeap.get_set_ne _ _ H'.ne, AHeap.get_push_lt _ _ (by rw [AHeap.next_del, AHeap.next_push]; omega), AHeap.get_del_ne _ (by omega), AHeap.get_push_lt _ _ hl0]; exact H'.g0
        · rw [AHeap.get_set_ne _ _ (by omega)]
          exact AHeap.get_push_same ((h'.push (.cells [.int .i64 (d : Int), .int .i64 (j : Int)] true)).del j') _
    · have e1 : ¬ (0 : Int) < (j : Int) := by omega
      simp only [e1, decide_false, RSd.down]
      refine ⟨(fun i hi => by cases hi), _, rfl, rfl, n', j, a1, a2, a3, a4, ?_⟩
      rw [if_neg hj]; exact H'
end Go.AM
