/- The reference's long division: answers. No condition. -/
import Derived.Test.YtemmnocgkgoegaaGreatDm3
set_option maxRecDepth 100000
set_option linter.unusedSimpArgs false
set_option linter.unusedVariables false
namespace Go.AM
open Go
section
variable {I : Oracle} {K : List Fr} {Q : AX → St → Prop}
theorem dvO_loop (hT : ∀ a h, I 74 a h = none) (hB : ∀ a h, I 97 a h = none) {h0 : AHeap} {A Y n M my ir iy iq qn : Nat} {ry : Bool} {cq : ACap}
    (hy : h0.get iy = some (.cells (tb .u64 my (dgt B32 Y)) ry)) (n1 : iy ≠ ir) (n2 : iq ≠ ir) (n3 : iq ≠ iy) (hn : 1 ≤ n) (h1 : qn + n ≤ M) (h2 : n ≤ my) (h3 : M ≤ 10000) (bY : Y < B32 ^ n) (tY : B32 ^ (n - 1) ≤ Y) :
    ∀ (kk : Nat) (h : AHeap) (y0 y3 y4 y5 y6 y9 : AV), kk ≤ qn → h.get ir = some (.cells (tb .u64 M (dgt B32 (A % (Y * B32 ^ kk)))) true) → h.get iq = some (.cells (tb .u64 qn fun j => if j < kk then 0 else dgt B32 (A / Y) j) true) → (h.next = h0.next ∧ ∀ j, j ≠ ir → j ≠ iq → h.get j = h0.get j) →
    (∀ (h' : AHeap) (z0 z1 z3 z4 z5 z6 z9 : AV), (h'.next = h0.next ∧ ∀ j, j ≠ ir → j ≠ iq → h'.get j = h0.get j) → h'.get ir = some (.cells (tb .u64 M (dgt B32 (A % Y))) true) → h'.get iq = some (.cells (tb .u64 qn (dgt B32 (A / Y))) true) →
      WX (lim otab.get I) (.exit 0) K ⟨[z0, z1, .slice ir 0 M (.opn 1), z3, z4, z5, z6, .int .i64 (n : Int), .slice iy 0 n (.opn 1), z9, .slice iq 0 qn cq], h'⟩ Q) →
    WK (lim otab.get I) (.loop dvO) K ⟨[y0, .int .i64 ((kk : Int) - 1), .slice ir 0 M (.opn 1), y3, y4, y5, y6, .int .i64 (n : Int), .slice iy 0 n (.opn 1), y9, .slice iq 0 qn cq], h⟩ Q := by
  have hY0 : 0 < Y := Nat.lt_of_lt_of_le (Nat.pow_pos (by decide)) tY
  intro kk
  induction kk with
  | zero =>
    intro h y0 y3 y4 y5 y6 y9 hk hr hq hG hQ
    refine WK_loop' (by dsimp only [dvO, of77]) ?_
    simp only [RSd.down, geq_int, show decide ((0 : Int) ≤ ((0 : Nat) : Int) - 1) = false from rfl]
    rw [Nat.pow_zero, Nat.mul_one] at hr
    rw [tb_congr (g := dgt B32 (A / Y)) fun j _ => by rw [if_neg (Nat.not_lt_zero j)]] at hq
    exact hQ _ _ _ _ _ _ _ _ hG hr hq
  | succ k ih =>
    intro h y0 y3 y4 y5 y6 y9 hk hr hq hG hQ
    refine WK_loop' (by dsimp only [dvO, of77]) ?_
    have e0 : ((k + 1 : Nat) : Int) - 1 = (k : Int) := by omega
    have e1 : (0 : Int) ≤ (k : Int) := by omega
    have hbk : 0 < B32 ^ k := Nat.pow_pos (by decide)
    obtain ⟨Ak, hAk⟩ : ∃ Ak, Ak = A % (Y * B32 ^ (k + 1)) := ⟨_, rfl⟩
    rw [← hAk] at hr
    have hL : Ak % B32 ^ k < B32 ^ k := Nat.mod_lt _ hbk
    have hsplit : Ak % B32 ^ k + B32 ^ k * (Ak / B32 ^ k) = Ak := Nat.mod_add_div Ak (B32 ^ k)
    have hAlt : Ak < Y * B32 ^ (k + 1) := by rw [hAk]; exact Nat.mod_lt _ (Nat.mul_pos hY0 (Nat.pow_pos (by decide)))
    have hWlt : Ak / B32 ^ k < B32 * Y := by
      refine Nat.div_lt_of_lt_mul ?_
      have : B32 ^ k * (B32 * Y) = Y * B32 ^ (k + 1) := by rw [Nat.pow_succ]; ac_rfl
      rw [this]; exact hAlt
    have hr' : h.get ir = some (.cells (tb .u64 M (dgt B32 (Ak % B32 ^ k + B32 ^ k * (Ak / B32 ^ k)))) true) := by rw [hsplit]; exact hr
    have hq' : h.get iq = some (.cells (tb .u64 qn (fQ (A / Y) k 0)) true) := by
      rw [hq, tb_congr (g := fQ (A / Y) k 0) fun j _ => by
        unfold fQ
        by_cases c1 : j = k
        · rw [if_pos c1, if_pos (by omega)]
        · by_cases c2 : k < j
          · rw [if_neg c1, if_pos c2, if_neg (by omega)]
          · rw [if_neg c1, if_neg c2, if_pos (by omega)]]
    rw [e0]
    simp only [RSd.down, geq_int, e1, decide_true]
    refine dvM_loop hT hB hy n1 n2 n3 hn (by omega) h2 h3 (by omega) bY tY (Ak / B32 ^ k) 0 (Ak % B32 ^ k) h _ _ _ _ _ _ hL (by rw [Nat.zero_mul, Nat.add_zero]; exact hWlt) hr' hq' hG ?_
    intro h' z0 z3 z4 z5 z6 z9 hG' hr2 hq2
    rw [Nat.zero_mul, Nat.add_zero] at hr2 hq2
    have er : Ak % B32 ^ k + B32 ^ k * (Ak / B32 ^ k % Y) = A % (Y * B32 ^ k) := by
      rw [← Nat.mod_mul, hAk, Nat.mul_comm (B32 ^ k) Y]
      exact Nat.mod_mod_of_dvd _ ⟨B32, by rw [Nat.pow_succ, Nat.mul_assoc]⟩
    have eq2 : Ak / B32 ^ k / Y = dgt B32 (A / Y) k := by
      unfold dgt
      rw [Nat.div_div_eq_div_mul, Nat.div_div_eq_div_mul, hAk, Nat.mul_comm (B32 ^ k) Y, Nat.pow_succ, ← Nat.mul_assoc]
      exact Nat.mod_mul_right_div_self _ _ _
    rw [er] at hr2
    rw [eq2] at hq2
    have hq3 : h'.get iq = some (.cells (tb .u64 qn fun j => if j < k then 0 else dgt B32 (A / Y) j) true) := by
      rw [hq2, tb_congr (g := fun j => if j < k then 0 else dgt B32 (A / Y) j) fun j _ => by
        unfold fQ
        by_cases c1 : j = k
        · subst c1; rw [if_pos rfl, if_neg (Nat.lt_irrefl _)]
        · by_cases c2 : k < j
          · rw [if_neg c1, if_pos c2, if_neg (by omega)]
          · rw [if_neg c1, if_neg c2, if_pos (by omega)]]
    simp (disch := omega) only [RSd.down, sub_i64]
    exact ih h' _ _ _ _ _ _ (by omega) hr2 hq3 hG' hQ
/-- the digits of a number without zeros ahead: all cells are digits -/
theorem limbsC_spec (hI : ∀ a h, I 74 a h = none) (hJ : ∀ a h, I 61 a h = none) {s : List Nat} (hs : canB s = true) (h : AHeap) :
    ∃ b h' n, lim otab.get I (.fn 61) [.str s] h = some (b, h') ∧ LInv h h' b (tb .u64 n (dgt B32 (nv s))) ∧ nv s < B32 ^ n ∧ (n ≠ 0 → B32 ^ (n - 1) ≤ nv s) ∧ 4 * n ≤ s.length + 3 := by
  obtain ⟨hs1, hl⟩ := fit3_iff (can_fit hs)
  obtain ⟨b, h', e, n, g1, g2, g3, g4⟩ := lim_walk_ex (T := otab.get) (I := I) (f := 61) (fn := of61) rfl (a := [.str s]) (h := h)
    (P := fun b h' => ∃ n, LInv h h' b (tb .u64 n (dgt B32 (nv s))) ∧ nv s < B32 ^ n ∧ (n ≠ 0 → B32 ^ (n - 1) ≤ nv s) ∧ 4 * n ≤ s.length + 3) (hJ _ _) (by
      show WK _ _ [] ⟨[.str s, aundef, aundef, aundef, aundef, aundef], h⟩ _
      dsimp only [of61]
      have e1 : (s.length : Int) = (s.length : Int) - 4 * ((0 : Nat) : Int) := by omega
      simp only [RSd.down, len_st]
      rw [e1]
      refine limO_loop hs1 (by omega) s.length 0 h .nils _ _ _ (by omega) (LInv.nil h) (.inl rfl) ?_
      intro h' b' z1 z2 z3 z4 k hk1 hk2 H
      have hV : nv s < B32 ^ k := by
        have h1 := nv_lt hs1
        have h2 : (256 : Nat) ^ (4 * k) = B32 ^ k := by rw [Nat.pow_mul]
        have h3 : 256 ^ s.length ≤ 256 ^ (4 * k) := Nat.pow_le_pow_right (by decide) hk1
        omega
      have hlow : k ≠ 0 → B32 ^ (k - 1) ≤ nv s := by
        intro hk0
        rcases can_low hs with c | ⟨c, c2⟩
        · subst c; simp at hk2; omega
        · have h2 : (256 : Nat) ^ (4 * (k - 1)) = B32 ^ (k - 1) := by rw [Nat.pow_mul]
          have h3 : 256 ^ (4 * (k - 1)) ≤ 256 ^ (s.length - 1) := Nat.pow_le_pow_right (by decide) (by omega)
          omega
      rcases H.val with ⟨r1, r2⟩ | ⟨i, r1, r2, r3, r4, r5⟩
      · subst r1
        have hk0 : k = 0 := by
          have := congrArg List.length r2
          rw [tb_len] at this; exact this
        subst hk0
        simp only [RSd.down, rtrim_nil hI]
        exact ⟨(fun i hi => by cases hi), _, rfl, 0, H, hV, hlow, by omega⟩
      · subst r1
        rw [tb_len]
        have ht := rtrim_spec hI r5 (by omega)
        have hk0 : k ≠ 0 := fun e => by subst e; exact r2 rfl
        have htl : tlen (dgt B32 (nv s)) k = k := by
          have h1 := tlen_dgt (b := B32) (by decide) _ hV
          have h2 := tlen_le (dgt B32 (nv s)) k
          rcases Nat.lt_or_ge (tlen (dgt B32 (nv s)) k) k with c | c
          · have h3 : B32 ^ tlen (dgt B32 (nv s)) k ≤ B32 ^ (k - 1) := Nat.pow_le_pow_right (by decide) (by omega)
            have := hlow hk0
            omega
          · omega
        rw [htl] at ht
        simp only [RSd.down, ht]
        rw [tb_len] at H
        exact ⟨(fun i hi => by cases hi), _, rfl, k, H, hV, hlow, by omega⟩)
  exact ⟨b, h', n, e, g1, g2, g3, g4⟩
end
end Go.AM
