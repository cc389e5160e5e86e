/- The reference's comparison of digits: what the code computes. No condition. -/
import Derived.Test.YtemmnocgkgoegaaGreatDm0
set_option maxRecDepth 100000
set_option linter.unusedSimpArgs false
set_option linter.unusedVariables false
namespace Go.AM
open Go
theorem sl_from_opn {i N n : Nat} (hn : n ≤ N) : sl 1 (.slice i 0 N (.opn 1)) (some (n : Int)) none none = some (.slice i n (N - n) (.opn 1)) := by
  have hb : bounds N N (some (n : Int)) none none = some (n, N, N) := by
    unfold bounds
    simp only [Int.toNat_natCast]
    rw [if_pos ⟨by omega, by omega⟩]
  show (if 1 = 1 then (match bounds N N (some (n : Int)) none none with | some (l, h, _) => some (AV.slice i (0 + l * 1) (h - l) (.opn 1)) | none => none) else none) = _
  rw [if_pos rfl, hb]
  show some (AV.slice i (0 + n * 1) (N - n) (.opn 1)) = _
  rw [Nat.zero_add, Nat.mul_one]
theorem sl_opnO {i o N n : Nat} (hn : n ≤ N) : sl 1 (.slice i o N (.opn 1)) none (some (n : Int)) none = some (.slice i o n (.opn 1)) := by
  have hb : bounds N N none (some (n : Int)) none = some (0, n, N) := by
    unfold bounds
    simp only [Int.toNat_natCast]
    rw [if_pos ⟨by omega, by omega⟩]
  show (if 1 = 1 then (match bounds N N none (some (n : Int)) none with | some (l, h, _) => some (AV.slice i (o + l * 1) (h - l) (.opn 1)) | none => none) else none) = _
  rw [if_pos rfl, hb]; rfl
theorem iaddrO {j o len : Nat} {c : ACap} {k : IntKind} {i : Nat} (h : i < len) : iaddrV 1 (.slice j o len c) (.int k (i : Int)) = some (.ptr j (o + i)) := by
  rw [iaddrV_ok h, Nat.mul_one]
theorem len_slO {j o len : Nat} {c : ACap} {h : AHeap} : lenV 1 (.slice j o len c) h = some (.int .i64 (len : Int)) := rfl
section
variable {I : Oracle} {K : List Fr} {Q : AX → St → Prop}
theorem rtrO_loop {C : CallT} {h : AHeap} {i o m : Nat} {r : Bool} {f : Nat → Nat} (hg : h.get i = some (.cells (tb .u64 m f) r)) (hm : m ≤ 4611686018427387904) : ∀ (n : Nat) (y1 y2 y3 : AV), o + n ≤ m →
    (∀ z1 z2 z3 : AV, WX C (.exit 0) K ⟨[.slice i o (tlen (fun j => f (o + j)) n) (.opn 1), z1, z2, z3], h⟩ Q) →
    WK C (.loop rtrB) K ⟨[.slice i o n (.opn 1), y1, y2, y3], h⟩ Q
  | 0, y1, y2, y3, hn, hQ => by
    refine WK_loop' (by dsimp only [rtrB, of74]) ?_
    simp only [RSd.down, len_slO, gtr_int, show decide ((0 : Int) < ((0 : Nat) : Int)) = false from rfl]
    exact hQ _ _ _
  | n + 1, y1, y2, y3, hn, hQ => by
    refine WK_loop' (by dsimp only [rtrB, of74]) ?_
    have e0 : (0 : Int) < ((n + 1 : Nat) : Int) := by omega
    have e1 : ((n + 1 : Nat) : Int) - 1 = (n : Int) := by omega
    have hl := ld_tb hg (show o + n < m by omega)
    unfold tlen at hQ
    by_cases e : f (o + n) = 0
    · have e2 : ((f (o + n) : Nat) : Int) = 0 := by omega
      have es : ∀ (y2 y3 : AV), evalQ (.slice 1 (.tmp 0) none (some (.tmp 1)) none) [.slice i o (n + 1) (.opn 1), .int .i64 (n : Int), y2, y3] h = some (.slice i o n (.opn 1)) := fun y2 y3 => by
        rw [evalQ_slice]; exact sl_opnO (Nat.le_succ n)
      simp (disch := omega) only [RSd.down, len_slO, gtr_int, e0, decide_true, sub_i64, e1, iaddrO, hl, eql_int, e2, es]
      rw [if_pos e] at hQ
      exact rtrO_loop hg hm n _ _ _ (by omega) hQ
    · have e2 : ¬ ((f (o + n) : Nat) : Int) = 0 := by omega
      simp (disch := omega) only [RSd.down, len_slO, gtr_int, e0, decide_true, sub_i64, e1, iaddrO, hl, eql_int, e2, decide_false]
      rw [if_neg e] at hQ
      exact hQ _ _ _
theorem rtrimO (hI : ∀ a h, I 74 a h = none) {h : AHeap} {i o n m : Nat} {r : Bool} {f : Nat → Nat} (hg : h.get i = some (.cells (tb .u64 m f) r)) (hN : m ≤ 4611686018427387904) (hn : o + n ≤ m) :
    lim otab.get I (.fn 74) [.slice i o n (.opn 1)] h = some (.slice i o (tlen (fun j => f (o + j)) n) (.opn 1), h) := by
  refine lim_walk (fn := of74) rfl (hI _ _) ?_
  show WK _ _ [] ⟨[.slice i o n (.opn 1), aundef, aundef, aundef], h⟩ _
  dsimp only [of74]
  simp only [RSd.down]
  refine rtrO_loop hg hN n _ _ _ hn fun z1 z2 z3 => ?_
  simp only [RSd.down]
  exact ⟨(fun i hi => by cases hi), rfl, trivial⟩
theorem div_dgt (b V i : Nat) : V / b ^ i = V / b ^ (i + 1) * b + dgt b V i := by
  unfold dgt
  rw [Nat.pow_succ, ← Nat.div_div_eq_div_mul, Nat.mul_comm]
  exact (Nat.div_add_mod _ _).symm
noncomputable def belB : ACode := match of97.body with | .seq _ (.seq _ (.seq _ (.seq (.seq _ (.block _ (.loop b))) _))) => b | c => c
theorem bel_loop {C : CallT} {h : AHeap} {ix iy o n mx my X Y : Nat} {f : Nat → Nat} {rx ry : Bool} (hx : h.get ix = some (.cells (tb .u64 mx f) rx)) (hy : h.get iy = some (.cells (tb .u64 my (dgt B32 Y)) ry)) (hf : ∀ j, j < n → f (o + j) = dgt B32 X j) (h1 : o + n ≤ mx) (h2 : n ≤ my) (h3 : n ≤ 1000000) : ∀ (k : Nat) (y3 y4 : AV), k ≤ n → X / B32 ^ k = Y / B32 ^ k →
    (∀ z0 z1 z3 z4 : AV, WX C .ret K ⟨[z0, z1, .bool (decide (X < Y)), z3, z4], h⟩ Q) →
    (X = Y → ∀ z0 z1 z2 z3 z4 : AV, WX C (.exit 0) K ⟨[z0, z1, z2, z3, z4], h⟩ Q) →
    WK C (.loop belB) K ⟨[.slice ix o n (.opn 1), .slice iy 0 n (.opn 1), .int .i64 ((k : Int) - 1), y3, y4], h⟩ Q := by
  intro k
  induction k with
  | zero =>
    intro y3 y4 hk he hR hQ
    rw [Nat.pow_zero, Nat.div_one, Nat.div_one] at he
    refine WK_loop' (by dsimp only [belB, of97]) ?_
    simp only [RSd.down, geq_int, show decide ((0 : Int) ≤ ((0 : Nat) : Int) - 1) = false from rfl]
    exact hQ he _ _ _ _ _
  | succ k ih =>
    intro y3 y4 hk he hR hQ
    refine WK_loop' (by dsimp only [belB, of97]) ?_
    have e0 : ((k + 1 : Nat) : Int) - 1 = (k : Int) := by omega
    have e1 : (0 : Int) ≤ (k : Int) := by omega
    have lx := ld_tb hx (show o + k < mx by omega)
    rw [hf k (by omega)] at lx
    have ly := ld_tb hy (show k < my by omega)
    have ax : iaddrV 1 (.slice ix o n (.opn 1)) (.int .i64 (k : Int)) = some (.ptr ix (o + k)) := iaddrO (by omega)
    have ay : iaddrV 1 (.slice iy 0 n (.opn 1)) (.int .i64 (k : Int)) = some (.ptr iy k) := iaddrW (by omega)
    have dx := div_dgt B32 X k
    have dy := div_dgt B32 Y k
    rw [he] at dx
    rw [e0]
    by_cases e : dgt B32 X k = dgt B32 Y k
    · have e2 : (((dgt B32 X k : Nat) : Int) ≠ ((dgt B32 Y k : Nat) : Int)) = False := eq_false (by omega)
      simp (disch := omega) only [RSd.down, geq_int, e1, decide_true, WDs_iaddr, WDs_load, ax, lx, ay, ly, neq_int, e2, decide_false, sub_i64]
      exact ih _ _ (by omega) (by rw [dx, dy, e]) hR hQ
    · have e2 : (((dgt B32 X k : Nat) : Int) ≠ ((dgt B32 Y k : Nat) : Int)) = True := eq_true (by omega)
      have e3 : decide (((dgt B32 X k : Nat) : Int) < ((dgt B32 Y k : Nat) : Int)) = decide (X < Y) := by
        refine decide_eq_decide.2 ?_
        have hp : 0 < B32 ^ k := Nat.pow_pos (by decide)
        constructor
        · intro hl
          have : X / B32 ^ k < Y / B32 ^ k := by rw [dx, dy]; omega
          exact Nat.lt_of_div_lt_div this
        · intro hl
          have := Nat.div_le_div_right (c := B32 ^ k) (Nat.le_of_lt hl)
          rw [dx, dy] at this
          omega
      simp (disch := omega) only [RSd.down, geq_int, e1, decide_true, WDs_iaddr, WDs_load, ax, lx, ay, ly, neq_int, e2, lss_int, e3]
      exact hR _ _ _ _
theorem below_spec (hI : ∀ a h, I 74 a h = none) (hJ : ∀ a h, I 97 a h = none) {h : AHeap} {ix iy o n mx my ny X Y : Nat} {f : Nat → Nat} {rx ry : Bool} (hx : h.get ix = some (.cells (tb .u64 mx f) rx)) (hy : h.get iy = some (.cells (tb .u64 my (dgt B32 Y)) ry)) (hf : ∀ j, j < n → f (o + j) = dgt B32 X j) (h1 : o + n ≤ mx) (h2 : ny ≤ my) (h3 : mx ≤ 1000000) (bX : X < B32 ^ n) (bY : Y < B32 ^ ny) (tY : ny ≠ 0 → B32 ^ (ny - 1) ≤ Y) :
    lim otab.get I (.fn 97) [.slice ix o n (.opn 1), .slice iy 0 ny (.opn 1)] h = some (.bool (decide (X < Y)), h) := by
  refine lim_walk (fn := of97) rfl (hJ _ _) ?_
  show WK _ _ [] ⟨[.slice ix o n (.opn 1), .slice iy 0 ny (.opn 1), aundef, aundef, aundef], h⟩ _
  dsimp only [of97]
  have ht := rtrimO hI (o := o) (n := n) hx (by omega) h1
  rw [tlen_congr n (g := dgt B32 X) (fun j hj => hf j hj)] at ht
  have hle := tlen_le (dgt B32 X) n
  have hlt := tlen_dgt (b := B32) (by decide) n bX
  have hmin := tlen_min (b := B32) (v := X) (by decide) (n := n)
  generalize tlen (dgt B32 X) n = t at ht hle hlt hmin
  simp only [RSd.down, ht, len_slO, neq_int]
  by_cases e : t = ny
  · subst e
    have e0 : (((t : Nat) : Int) ≠ ((t : Nat) : Int)) = False := eq_false (fun h => h rfl)
    simp (disch := omega) only [e0, decide_false, RSd.down, len_slO, sub_i64]
    refine bel_loop hx hy (fun j hj => hf j (by omega)) (by omega) h2 (by omega) t _ _ (Nat.le_refl _) (by rw [Nat.div_eq_of_lt hlt, Nat.div_eq_of_lt bY]) ?_ ?_
    · intro z0 z1 z3 z4
      simp only [RSd.down]
      exact ⟨(fun i hi => by cases hi), rfl, trivial⟩
    · intro he z0 z1 z2 z3 z4
      rw [decide_eq_false (show ¬ X < Y by omega)]
      simp only [RSd.down]
      exact ⟨(fun i hi => by cases hi), rfl, trivial⟩
  · have e0 : (((t : Nat) : Int) ≠ ((ny : Nat) : Int)) = True := eq_true (by omega)
    have e3 : decide (((t : Nat) : Int) < ((ny : Nat) : Int)) = decide (X < Y) := by
      refine decide_eq_decide.2 ?_
      constructor
      · intro hl
        have h5 : B32 ^ t ≤ B32 ^ (ny - 1) := Nat.pow_le_pow_right (by decide) (by omega)
        have := tY (by omega)
        omega
      · intro hl
        rcases Nat.lt_or_ge t ny with g | g
        · omega
        · have h5 : B32 ^ ny ≤ B32 ^ (t - 1) := Nat.pow_le_pow_right (by decide) (by omega)
          have := hmin (by omega)
          omega
    simp (disch := omega) only [e0, decide_true, RSd.down, len_slO, lss_int, e3]
    exact ⟨(fun i hi => by cases hi), rfl, trivial⟩
end
end Go.AM
