/- The reference's long division: what the code computes. No condition. -/
import Derived.Test.YtemmnocgkgoegaaGreatDm2
set_option maxRecDepth 100000
set_option linter.unusedSimpArgs false
set_option linter.unusedVariables false
namespace Go.AM
open Go
/-- the digits of the quotient found so far -/
def fQ (Q k q j : Nat) : Nat := if j = k then q else if k < j then dgt B32 Q j else 0
section
variable {I : Oracle} {K : List Fr} {Q : AX → St → Prop}
theorem dvM_loop (hT : ∀ a h, I 74 a h = none) (hB : ∀ a h, I 97 a h = none) {h0 : AHeap} {Y k n M my ir iy iq qn Qv : Nat} {ry : Bool} {cq : ACap}
    (hy : h0.get iy = some (.cells (tb .u64 my (dgt B32 Y)) ry)) (n1 : iy ≠ ir) (n2 : iq ≠ ir) (n3 : iq ≠ iy) (hn : 1 ≤ n) (h1 : k + n < M) (h2 : n ≤ my) (h3 : M ≤ 10000) (hk : k < qn) (bY : Y < B32 ^ n) (tY : B32 ^ (n - 1) ≤ Y) :
    ∀ (W q L : Nat) (h : AHeap) (y0 y3 y4 y5 y6 y9 : AV), L < B32 ^ k → W + q * Y < B32 * Y → h.get ir = some (.cells (tb .u64 M (dgt B32 (L + B32 ^ k * W))) true) → h.get iq = some (.cells (tb .u64 qn (fQ Qv k q)) true) → (h.next = h0.next ∧ ∀ j, j ≠ ir → j ≠ iq → h.get j = h0.get j) →
    (∀ (h' : AHeap) (z0 z3 z4 z5 z6 z9 : AV), (h'.next = h0.next ∧ ∀ j, j ≠ ir → j ≠ iq → h'.get j = h0.get j) → h'.get ir = some (.cells (tb .u64 M (dgt B32 (L + B32 ^ k * ((W + q * Y) % Y)))) true) → h'.get iq = some (.cells (tb .u64 qn (fQ Qv k ((W + q * Y) / Y))) true) →
      WX (lim otab.get I) (.exit 2) K ⟨[z0, .int .i64 (k : Int), .slice ir 0 M (.opn 1), z3, z4, z5, z6, .int .i64 (n : Int), .slice iy 0 n (.opn 1), z9, .slice iq 0 qn cq], h'⟩ Q) →
    WK (lim otab.get I) (.loop dvM) K ⟨[y0, .int .i64 (k : Int), .slice ir 0 M (.opn 1), y3, y4, y5, y6, .int .i64 (n : Int), .slice iy 0 n (.opn 1), y9, .slice iq 0 qn cq], h⟩ Q := by
  have hY0 : 0 < Y := Nat.lt_of_lt_of_le (Nat.pow_pos (by decide)) tY
  intro W
  induction W using Nat.strongRecOn with
  | ind W ih =>
    intro q L h y0 y3 y4 y5 y6 y9 hL hb hr hq hG hQ
    refine WK_loop' (by dsimp only [dvM, of77]) ?_
    have hWb : W < B32 ^ (n + 1) := by
      have : B32 * Y < B32 * B32 ^ n := Nat.mul_lt_mul_of_pos_left bY (by decide)
      rw [Nat.pow_succ, Nat.mul_comm]; omega
    have hy' : h.get iy = some (.cells (tb .u64 my (dgt B32 Y)) ry) := by rw [hG.2 iy n1 (fun e => n3 e.symm)]; exact hy
    have es : ∀ (t0 t3 t4 t5 t6 t7 t8 t9 t10 : AV), evalQ (.slice 1 (.tmp 2) (some (.tmp 1)) none none) [t0, .int .i64 (k : Int), .slice ir 0 M (.opn 1), t3, t4, t5, t6, t7, t8, t9, t10] h = some (.slice ir k (M - k) (.opn 1)) := by
      intros
      rw [evalQ_slice]
      exact sl_from_opn (by omega)
    have hbel := below_spec (I := I) hT hB (o := k) (n := M - k) (X := W) (ny := n) hr hy' (fun j hj => dgt_hi (b := B32) (by decide) hL) (by omega) h2 (by omega) (Nat.lt_of_lt_of_le hWb (Nat.pow_le_pow_right (by decide) (by omega))) bY (fun _ => tY)
    simp only [RSd.down, es, hbel, not_bool]
    by_cases hlt : W < Y
    · simp only [decide_eq_true hlt, Bool.not_true, RSd.down]
      have e1 : (W + q * Y) % Y = W := by rw [Nat.add_mul_mod_self_right, Nat.mod_eq_of_lt hlt]
      have e2 : (W + q * Y) / Y = q := by rw [Nat.add_mul_div_right _ _ hY0, Nat.div_eq_of_lt hlt, Nat.zero_add]
      rw [e1, e2] at hQ
      exact hQ _ _ _ _ _ _ _ hG hr hq
    · simp only [decide_eq_false hlt, Bool.not_false, RSd.down]
      have hle : Y ≤ W := by omega
      -- the guess
      obtain ⟨g, hgd⟩ : ∃ g, g = max 1 (W / B32 ^ (n - 1) / (dgt B32 Y (n - 1) + 1)) := ⟨_, rfl⟩
      have hgY : g * Y ≤ W := by rw [hgd]; exact guess_le (b := B32) (by decide) hn bY hle
      have hg1 : 1 ≤ g := by rw [hgd]; exact Nat.le_max_left _ _
      have hgb : g < B32 := by
        rcases Nat.lt_or_ge g B32 with c | c
        · exact c
        · have : B32 * Y ≤ g * Y := Nat.mul_le_mul_right _ c
          omega
      have hqg : q + g < B32 := by
        rcases Nat.lt_or_ge (q + g) B32 with c | c
        · exact c
        · have : B32 * Y ≤ (q + g) * Y := Nat.mul_le_mul_right _ c
          rw [Nat.add_mul] at this
          omega
      have hgb' : g < 4294967296 := hgb
      have hqg' : q + g < 4294967296 := hqg
      have dtop : dgt B32 (L + B32 ^ k * W) (k + n) = dgt B32 W n := dgt_hi (b := B32) (by decide) hL
      have dtop2 : dgt B32 (L + B32 ^ k * W) (k + n - 1) = dgt B32 W (n - 1) := by rw [show k + n - 1 = k + (n - 1) by omega]; exact dgt_hi (b := B32) (by decide) hL
      have l1 := ld_tb hr (show k + n < M by omega)
      have l2 := ld_tb hr (show k + n - 1 < M by omega)
      have l3 := ld_tb hy' (show n - 1 < my by omega)
      have l4 := ld_tb hq hk
      have hfq : fQ Qv k q k = q := if_pos rfl
      rw [dtop] at l1
      rw [dtop2] at l2
      rw [hfq] at l4
      have x1 : dgt B32 W n < 4294967296 := dgt_lt (b := B32) (by decide)
      have x2 : dgt B32 W (n - 1) < 4294967296 := dgt_lt (b := B32) (by decide)
      have x3 : dgt B32 Y (n - 1) < 4294967296 := dgt_lt (b := B32) (by decide)
      have htop : dgt B32 W n * 4294967296 + dgt B32 W (n - 1) = W / B32 ^ (n - 1) := by
        have := div_dgt B32 W (n - 1)
        rw [show n - 1 + 1 = n by omega] at this
        have h5 : W / B32 ^ n = dgt B32 W n := by
          unfold dgt
          rw [Nat.mod_eq_of_lt (Nat.div_lt_of_lt_mul (by rw [← Nat.pow_succ]; exact hWb))]
        rw [this, h5]
      have b1 := shl_32 (e := .no) (x := dgt B32 W n) (by omega)
      have b2 := add_u64 (e := .no) (x := dgt B32 W n * 4294967296) (y := dgt B32 W (n - 1)) (by omega)
      rw [htop] at b2
      have b3 : bin .add .no (.int .u64 ((dgt B32 Y (n - 1) : Nat) : Int)) (.int .u64 1) = some (.int .u64 ((dgt B32 Y (n - 1) + 1 : Nat) : Int)) := add_u64 (x := dgt B32 Y (n - 1)) (y := 1) (by omega)
      have b4 := quo_u64 (e := .no) (a := W / B32 ^ (n - 1)) (b := dgt B32 Y (n - 1) + 1) (by omega) (by rw [← htop]; omega)
      have b5 : maxs (.int .u64 1) [.int .u64 ((W / B32 ^ (n - 1) / (dgt B32 Y (n - 1) + 1) : Nat) : Int)] = some (.int .u64 (g : Int)) := by
        rw [max_int]
        congr 2
        have := hgd
        rw [Nat.max_def] at this
        split <;> split at this <;> omega
      have b6 := add_u64 (e := .no) (x := q) (y := g) (by omega)
      have a1 : iaddrV 1 (.slice ir 0 M (.opn 1)) (.int .i64 ((k + n : Nat) : Int)) = some (.ptr ir (k + n)) := iaddrW (by omega)
      have a2 : iaddrV 1 (.slice ir 0 M (.opn 1)) (.int .i64 ((k + n - 1 : Nat) : Int)) = some (.ptr ir (k + n - 1)) := iaddrW (by omega)
      have a3 : iaddrV 1 (.slice iy 0 n (.opn 1)) (.int .i64 ((n - 1 : Nat) : Int)) = some (.ptr iy (n - 1)) := iaddrW (by omega)
      have a4 : iaddrV 1 (.slice iq 0 qn cq) (.int .i64 (k : Int)) = some (.ptr iq k) := iaddrW hk
      have e1 : (k : Int) + (n : Int) = ((k + n : Nat) : Int) := rfl
      have e2 : ((k + n : Nat) : Int) - 1 = ((k + n - 1 : Nat) : Int) := by omega
      have e3 : (n : Int) - 1 = ((n - 1 : Nat) : Int) := by omega
      have sq := stW_tb (h := h) (i := iq) (k := k) (n := qn) (v := q + g) (q := .u64) (f := fQ Qv k q) (fQ Qv k (q + g)) hq hk (if_pos rfl) (fun j _ hne => by unfold fQ; rw [if_neg hne, if_neg hne])
      simp (disch := omega) only [RSd.down, WDs_iaddr, WDs_load, WDs_mx, add_i64, sub_i64, e1, e2, e3, a1, l1, b1, a2, l2, b2, a3, l3, b3, b4, evalQ_mx, b5, a4, l4, b6, evalE_st1, sq]
      obtain ⟨W', hW'⟩ : ∃ W', W = W' + g * Y := ⟨W - g * Y, by omega⟩
      have hgY1 : 1 * Y ≤ g * Y := Nat.mul_le_mul_right _ hg1
      have hyq : (h.set iq (.cells (tb .u64 qn (fQ Qv k (q + g))) true)).get iy = some (.cells (tb .u64 my (dgt B32 Y)) ry) := by rw [AHeap.get_set_ne _ _ (fun e => n3 e.symm)]; exact hy'
      have hrq : (h.set iq (.cells (tb .u64 qn (fQ Qv k (q + g))) true)).get ir = some (.cells (tb .u64 M (fI (L + B32 ^ k * W) W' k 0)) true) := by
        rw [AHeap.get_set_ne _ _ (fun e => n2 e.symm), hr, tb_congr (g := fI (L + B32 ^ k * W) W' k 0) fun j _ => by unfold fI; rw [if_neg (by omega)]]
      refine dvI_loop (h0 := h.set iq (.cells (tb .u64 qn (fQ Qv k (q + g))) true)) (W := W') (L := L) (Y := Y) (by rw [← hW']) hL hgb hyq n1 h1 h2 h3 n 0 0 _ _ _ _ (bor_zero (b := B32) (by decide) _ _ _).symm (by omega) ⟨rfl, fun _ _ => rfl⟩ hrq ?_
      intro h' z0 z4 z5 z6 hG' hr'
      have l5 := ld_tb hr' (show k + n < M by omega)
      have hf5 : fI (L + B32 ^ k * W) W' k n (k + n) = dgt B32 W n := by unfold fI; rw [if_neg (by omega), dtop]
      rw [hf5] at l5
      have htp := bor_top (b := B32) (by decide) (V' := W') (g := g) bY (by rw [← hW']; exact hWb)
      rw [← hW'] at htp
      have b7 := sub_u64 (e := .no) (x := dgt B32 W n) (y := bor B32 W' g Y n) (by omega) (by omega)
      rw [show dgt B32 W n - bor B32 W' g Y n = dgt B32 W' n by omega] at b7
      have hW'b : W' < B32 ^ (n + 1) := by omega
      have st := stW_tb (h := h') (i := ir) (k := k + n) (n := M) (v := dgt B32 W' n) (q := .u64) (f := fI (L + B32 ^ k * W) W' k n) (dgt B32 (L + B32 ^ k * W')) hr' (by omega)
        (dgt_hi (b := B32) (by decide) hL)
        (fun j _ hne => by
          unfold fI
          rcases Nat.lt_or_ge j k with c | c
          · rw [if_neg (by omega), dgt_lo (b := B32) (by decide) c, dgt_lo (b := B32) (by decide) c]
          · obtain ⟨d, rfl⟩ : ∃ d, j = k + d := ⟨j - k, by omega⟩
            rw [dgt_hi (b := B32) (by decide) hL]
            by_cases c2 : k + d < k + n
            · rw [if_pos (by omega), show k + d - k = d by omega]
            · rw [if_neg (by omega), dgt_hi (b := B32) (by decide) hL]
              have hp : B32 ^ (n + 1) ≤ B32 ^ d := Nat.pow_le_pow_right (by decide) (by omega)
              rw [dgt_zero (Nat.lt_of_lt_of_le hW'b hp), dgt_zero (Nat.lt_of_lt_of_le hWb hp)])
      simp (disch := omega) only [RSd.down, add_i64, e1, a1, l5, b7, evalE_st1, st]
      have hsum : W' + (q + g) * Y = W + q * Y := by rw [Nat.add_mul]; omega
      have hq2 : (h'.set ir (.cells (tb .u64 M (dgt B32 (L + B32 ^ k * W'))) true)).get iq = some (.cells (tb .u64 qn (fQ Qv k (q + g))) true) := by
        rw [AHeap.get_set_ne _ _ n2, hG'.2 iq n2, AHeap.get_set_same]
      refine ih W' (by omega) (q + g) L _ _ _ _ _ _ _ hL (by rw [hsum]; exact hb) (AHeap.get_set_same _ _ _) hq2 ⟨?_, fun j c1 c2 => ?_⟩ ?_
      · rw [AHeap.next_set, hG'.1, AHeap.next_set]; exact hG.1
      · rw [AHeap.get_set_ne _ _ c1, hG'.2 j c1, AHeap.get_set_ne _ _ c2]; exact hG.2 j c1 c2
      · rw [hsum]; exact hQ
end
end Go.AM
