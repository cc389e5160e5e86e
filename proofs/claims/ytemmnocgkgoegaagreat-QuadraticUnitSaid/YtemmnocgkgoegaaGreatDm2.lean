/- The reference's long division: its innermost loop, what the code computes. No condition. -/
import Derived.Test.YtemmnocgkgoegaaGreatDm1
set_option maxRecDepth 100000
set_option linter.unusedSimpArgs false
set_option linter.unusedVariables false
namespace Go.AM
open Go
theorem dgt_shift {b V k i : Nat} : dgt b V (k + i) = dgt b (V / b ^ k) i := by
  unfold dgt; rw [Nat.pow_add, Nat.div_div_eq_div_mul]
theorem dgt_hi {b L W k i : Nat} (hb : 0 < b) (hL : L < b ^ k) : dgt b (L + b ^ k * W) (k + i) = dgt b W i := by
  rw [dgt_shift, Nat.add_mul_div_left _ _ (Nat.pow_pos hb), Nat.div_eq_of_lt hL, Nat.zero_add]
theorem dgt_lo {b L W k j : Nat} (hb : 0 < b) (hj : j < k) : dgt b (L + b ^ k * W) j = dgt b L j := by
  obtain ⟨d, rfl⟩ : ∃ d, k = j + 1 + d := ⟨k - j - 1, by omega⟩
  have hp : 0 < b ^ j := Nat.pow_pos hb
  have e : b ^ (j + 1 + d) * W = b ^ j * (b * (b ^ d * W)) := by rw [Nat.pow_add, Nat.pow_succ]; ac_rfl
  unfold dgt
  rw [e, Nat.add_mul_div_left _ _ hp, Nat.add_mul_mod_self_left]
/-- the cells of the rest while g Y is subtracted from digit k on -/
def fI (V W k i j : Nat) : Nat := if k ≤ j ∧ j < k + i then dgt B32 W (j - k) else dgt B32 V j
section
variable {e : EqK}
theorem shl_32 {x : Nat} (hx : x * 4294967296 < 18446744073709551616) : bin .shl e (.int .u64 (x : Int)) (.int .u64 32) = some (.int .u64 ((x * 4294967296 : Nat) : Int)) := shl_u64 x 32 (by decide) hx
theorem quo_u64 {a b : Nat} (hb : 0 < b) (ha : a < 18446744073709551616) : bin .quo e (.int .u64 (a : Int)) (.int .u64 (b : Int)) = some (.int .u64 ((a / b : Nat) : Int)) := by
  have h1 : (a : Int).tdiv (b : Int) = ((a / b : Nat) : Int) := Int.ofNat_tdiv a b
  have h2 : a / b < 18446744073709551616 := Nat.lt_of_le_of_lt (Nat.div_le_self _ _) ha
  show (bif ieq (b : Int) 0 then none else some (AV.int .u64 ((a : Int).tdiv (b : Int) % 18446744073709551616))) = _
  rw [ieq_eq, decide_eq_false (by omega), h1]
  generalize a / b = q at h2
  rw [Int.emod_eq_of_lt (by omega) (by omega)]; rfl
end
section
variable {I : Oracle} {K : List Fr} {Q : AX → St → Prop}
noncomputable def dvO : ACode := match of77.body with | .seq _ (.seq _ (.seq _ (.seq _ (.seq _ (.seq _ (.seq (.seq _ (.block _ (.loop b))) _)))))) => b | c => c
noncomputable def dvM : ACode := match of77.body with | .seq _ (.seq _ (.seq _ (.seq _ (.seq _ (.seq _ (.seq (.seq _ (.block _ (.loop (.seq _ (.seq (.block _ (.block _ (.loop b))) _))))) _)))))) => b | c => c
noncomputable def dvI : ACode := match of77.body with | .seq _ (.seq _ (.seq _ (.seq _ (.seq _ (.seq _ (.seq (.seq _ (.block _ (.loop (.seq _ (.seq (.block _ (.block _ (.loop (.seq _ (.block _ (.seq _ (.seq _ (.seq _ (.seq (.seq _ (.block _ (.loop b))) _))))))))) _))))) _)))))) => b | c => c
theorem dvI_loop {C : CallT} {h0 : AHeap} {V W L g Y k n M my ir iy : Nat} {ry : Bool} {tq : AV} (hVW : V = L + B32 ^ k * (W + g * Y)) (hL : L < B32 ^ k) (hg : g < B32) (hy : h0.get iy = some (.cells (tb .u64 my (dgt B32 Y)) ry)) (hne : iy ≠ ir) (h1 : k + n < M) (h2 : n ≤ my) (h3 : M ≤ 10000) : ∀ (m i br : Nat) (h : AHeap) (y4 y5 y6 : AV), br = bor B32 W g Y i → i + m = n → (h.next = h0.next ∧ ∀ j, j ≠ ir → h.get j = h0.get j) → h.get ir = some (.cells (tb .u64 M (fI V W k i)) true) →
    (∀ (h' : AHeap) (z0 z4 z5 z6 : AV), (h'.next = h0.next ∧ ∀ j, j ≠ ir → h'.get j = h0.get j) → h'.get ir = some (.cells (tb .u64 M (fI V W k n)) true) → WX C (.exit 4) K ⟨[z0, .int .i64 (k : Int), .slice ir 0 M (.opn 1), .int .u64 (bor B32 W g Y n : Int), z4, z5, z6, .int .i64 (n : Int), .slice iy 0 n (.opn 1), .int .u64 (g : Int), tq], h'⟩ Q) →
    WK C (.loop dvI) K ⟨[.int .i64 (i : Int), .int .i64 (k : Int), .slice ir 0 M (.opn 1), .int .u64 (br : Int), y4, y5, y6, .int .i64 (n : Int), .slice iy 0 n (.opn 1), .int .u64 (g : Int), tq], h⟩ Q := by
  intro m
  induction m with
  | zero =>
    intro i br h y4 y5 y6 hbr hi hG hr hQ
    subst hbr
    have : i = n := by omega
    subst this
    refine WK_loop' (by dsimp only [dvI, of77]) ?_
    simp only [RSd.down, lss_int, show decide (((i : Nat) : Int) < (i : Int)) = false from decide_eq_false (by omega)]
    exact hQ _ _ _ _ _ hG hr
  | succ m ih =>
    intro i br h y4 y5 y6 hbr hi hG hr hQ
    subst hbr
    refine WK_loop' (by dsimp only [dvI, of77]) ?_
    have e0 : (i : Int) < (n : Int) := by omega
    have ek : (k : Int) + (i : Int) = ((k + i : Nat) : Int) := rfl
    have ei : (i : Int) + 1 = ((i + 1 : Nat) : Int) := rfl
    have hy' : h.get iy = some (.cells (tb .u64 my (dgt B32 Y)) ry) := by rw [hG.2 iy hne]; exact hy
    have ly := ld_tb hy' (show i < my by omega)
    have ay : iaddrV 1 (.slice iy 0 n (.opn 1)) (.int .i64 (i : Int)) = some (.ptr iy i) := iaddrW (by omega)
    have ar : iaddrV 1 (.slice ir 0 M (.opn 1)) (.int .i64 ((k + i : Nat) : Int)) = some (.ptr ir (k + i)) := iaddrW (by omega)
    have lr := ld_tb hr (show k + i < M by omega)
    have hfi : fI V W k i (k + i) = dgt B32 (W + g * Y) i := by
      unfold fI; rw [if_neg (by omega), hVW, dgt_hi (b := B32) (by decide) hL]
    rw [hfi] at lr
    have hyl : dgt B32 Y i < 4294967296 := dgt_lt (b := B32) (by decide)
    have hwl : dgt B32 W i < 4294967296 := dgt_lt (b := B32) (by decide)
    have hvl : dgt B32 (W + g * Y) i < 4294967296 := dgt_lt (b := B32) (by decide)
    have hbl : bor B32 W g Y i < 4294967296 := bor_lt (b := B32) (by decide) hg i
    have hgy : dgt B32 Y i * g ≤ 4294967295 * 4294967295 := Nat.mul_le_mul (by omega) (by have : g < 4294967296 := hg; omega)
    have hbs := bor_succ (b := B32) (by decide) W g Y i
    have hbd := bor_dgt (b := B32) (by decide) W g Y i
    have hpe : dgt B32 W i + (dgt B32 Y i * g + bor B32 W g Y i) = dgt B32 W i + g * dgt B32 Y i + bor B32 W g Y i := by rw [Nat.mul_comm (dgt B32 Y i)]; omega
    obtain ⟨c1, c2⟩ := dig_step (d := dgt B32 (W + g * Y) i) (d' := dgt B32 W i) (p := dgt B32 Y i * g + bor B32 W g Y i) hwl (by rw [hpe]; exact hbd)
    have hbs' : (dgt B32 W i + (dgt B32 Y i * g + bor B32 W g Y i)) / 4294967296 = bor B32 W g Y (i + 1) := by rw [hpe]; exact hbs.symm
    rw [hbs'] at c1 c2
    have a1 := mul_u64 (e := .no) (x := dgt B32 Y i) (y := g) (by omega)
    have a2 := add_u64 (e := .no) (x := dgt B32 Y i * g) (y := bor B32 W g Y i) (by omega)
    generalize hp : dgt B32 Y i * g + bor B32 W g Y i = p at a2 c1 c2
    have hpl : p < 18446744073709551616 := by omega
    have hpm : p % 4294967296 < 4294967296 := Nat.mod_lt _ (by decide)
    have hpd : p / 4294967296 < 4294967296 := by omega
    have fin : ∀ j, j < M → j ≠ k + i → fI V W k (i + 1) j = fI V W k i j := fun j _ hne => by
      unfold fI
      by_cases c : k ≤ j ∧ j < k + i
      · rw [if_pos c, if_pos (by omega)]
      · rw [if_neg c, if_neg (by omega)]
    have fin2 : fI V W k (i + 1) (k + i) = dgt B32 W i := by
      unfold fI; rw [if_pos (by omega), show k + i - k = i by omega]
    by_cases hlt : dgt B32 (W + g * Y) i < p % 4294967296
    · obtain ⟨d1, d2⟩ := c1 hlt
      have e3 : ((dgt B32 (W + g * Y) i : Nat) : Int) < ((p % 4294967296 : Nat) : Int) := by omega
      have st1 := stW_tb (h := h) (i := ir) (k := k + i) (n := M) (v := dgt B32 (W + g * Y) i + 4294967296) (q := .u64) (f := fI V W k i) (fun j => if j = k + i then dgt B32 (W + g * Y) i + 4294967296 else fI V W k i j) hr (by omega)
        (by show (if k + i = k + i then _ else _) = _; rw [if_pos rfl]) (fun j hj hne => by show (if j = k + i then _ else _) = _; rw [if_neg hne])
      have g2 := AHeap.get_set_same h ir (.cells (tb .u64 M (fun j => if j = k + i then dgt B32 (W + g * Y) i + 4294967296 else fI V W k i j)) true)
      have ld2 := ld_tb g2 (show k + i < M by omega)
      rw [if_pos rfl] at ld2
      have st2 := stW_tb (i := ir) (k := k + i) (n := M) (v := dgt B32 W i) (q := .u64) (fI V W k (i + 1)) g2 (by omega) fin2
        (fun j hj hne => by show _ = (if j = k + i then _ else fI V W k i j); rw [if_neg hne]; exact fin j hj hne)
      have a3 : bin .add .no (.int .u64 ((dgt B32 (W + g * Y) i : Nat) : Int)) (.int .u64 4294967296) = some (.int .u64 ((dgt B32 (W + g * Y) i + 4294967296 : Nat) : Int)) := add_u64 (x := dgt B32 (W + g * Y) i) (y := 4294967296) (by omega)
      have a4 : bin .add .no (.int .u64 ((p / 4294967296 : Nat) : Int)) (.int .u64 1) = some (.int .u64 ((bor B32 W g Y (i + 1) : Nat) : Int)) := by rw [← d2]; exact add_u64 (x := p / 4294967296) (y := 1) (by omega)
      have a5 := sub_u64 (e := .no) (x := dgt B32 (W + g * Y) i + 4294967296) (y := p % 4294967296) (by omega) (by omega)
      rw [d1] at a5
      simp (disch := omega) only [RSd.down, lss_int, e0, decide_true, ay, ly, a1, a2, hp, shr_32, add_i64, ek, ar, lr, and_low hpl, e3, a3, evalE_st1, st1, a4, ld2, a5, st2, ei]
      exact ih (i + 1) _ _ _ _ _ rfl (by omega) ⟨by rw [AHeap.next_set, AHeap.next_set]; exact hG.1, fun j hj => by rw [AHeap.get_set_ne _ _ hj, AHeap.get_set_ne _ _ hj]; exact hG.2 j hj⟩ (AHeap.get_set_same _ _ _) hQ
    · obtain ⟨d1, d2⟩ := c2 hlt
      have e3 : ¬ ((dgt B32 (W + g * Y) i : Nat) : Int) < ((p % 4294967296 : Nat) : Int) := by omega
      have st2 := stW_tb (h := h) (i := ir) (k := k + i) (n := M) (v := dgt B32 W i) (q := .u64) (f := fI V W k i) (fI V W k (i + 1)) hr (by omega) fin2 fin
      have a5 := sub_u64 (e := .no) (x := dgt B32 (W + g * Y) i) (y := p % 4294967296) (by omega) (by omega)
      rw [d1] at a5
      simp (disch := omega) only [RSd.down, lss_int, e0, decide_true, ay, ly, a1, a2, hp, shr_32, add_i64, ek, ar, lr, and_low hpl, e3, decide_false, a5, evalE_st1, st2, ei, d2]
      exact ih (i + 1) _ _ _ _ _ rfl (by omega) ⟨by rw [AHeap.next_set]; exact hG.1, fun j hj => by rw [AHeap.get_set_ne _ _ hj]; exact hG.2 j hj⟩ (AHeap.get_set_same _ _ _) hQ
end
end Go.AM
