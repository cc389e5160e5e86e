/- QuadraticUnit: what the law's code answers. No condition. -/
import Derived.Test.YtemmnocgkgoegaaGreatTbl
import Derived.Test.YtemmnocgkgoegaaGreatCk
set_option maxRecDepth 100000
set_option linter.unusedSimpArgs false
set_option linter.unusedVariables false
namespace Go.AM
open Go
abbrev zC : List AV := [.bool false, .str [], .bool false, .str []]
section
variable {h : AHeap} {i : Nat} {a b c d x y z w : AV} {r : Bool}
theorem stI4g (hg : h.get i = some (.cells [a, b, c, d] true)) (hx : x.scalar = true) (hy : y.scalar = true) (hz : z.scalar = true) (hw : w.scalar = true) : stI 4 (.ptr i 0) (.agg [x, y, z, w]) h = some (aundef, h.set i (.cells [x, y, z, w] true)) := by
  have ho : ownOf h i = some [a, b, c, d] := by unfold ownOf; rw [hg]
  have hl : lay [a, b, c, d] 0 [x, y, z, w] = some [x, y, z, w] := by rw [lay_cons, lay_cons, lay_cons, lay_cons, lay_zero]
  unfold stI
  simp only [evalE, ev_lit, ho]
  show (if ([x, y, z, w] : List AV).length = 4 ∧ ([x, y, z, w] : List AV).all AV.scalar = true then (match lay [a, b, c, d] 0 [x, y, z, w] with | some c' => some (aundef, h.set i (.cells c' true)) | none => none) else none) = _
  rw [if_pos ⟨rfl, by simp [hx, hy, hz, hw]⟩, hl]
theorem l42a (hg : h.get i = some (.cells [a, b, c, d] r)) : loadV (some 2) (.ptr i 0) h = some (.agg [a, b]) := by
  show (match cellsOf h i with | some c => fit (some 2) 0 c | none => none) = _
  rw [cellsOf_get hg]; rfl
theorem l42b (hg : h.get i = some (.cells [a, b, c, d] r)) : loadV (some 2) (.ptr i 2) h = some (.agg [c, d]) := by
  show (match cellsOf h i with | some c => fit (some 2) 2 c | none => none) = _
  rw [cellsOf_get hg]; rfl
theorem fadI_2 : fadI 2 (.ptr i 0) = some (.ptr i 2) := rfl
end
theorem neq02 {c : Bool} {s : List Nat} : bin .neq (.flat [0, 2]) (.agg [.bool c, .str s]) (.agg [.bool c, .str s]) = some (.bool false) := by
  have e : eqCells [0, 2] [.bool c, .str s] [.bool c, .str s] = some true := by
    show (match some (c == c) with | some true => (match some (decide (s = s)) with | some true => some true | r => r) | r => r) = _
    cases c <;> simp
  have e2 : eqv (.flat [0, 2]) (.agg [.bool c, .str s]) (.agg [.bool c, .str s]) = some true := by
    show (if ([.bool c, .str s] : List AV).length = 2 ∧ ([.bool c, .str s] : List AV).length = 2 then eqCells [0, 2] [.bool c, .str s] [.bool c, .str s] else none) = _
    rw [if_pos ⟨rfl, rfl⟩, e]
  show (match eqv (.flat [0, 2]) (.agg [.bool c, .str s]) (.agg [.bool c, .str s]) with | some b => some (AV.bool (!b)) | none => none) = _
  rw [e2]; rfl
noncomputable abbrev pI (v : Nat) : AV := .agg [.bool false, .str (nb v)]
section
variable {h : AHeap}
theorem q_mul {x y : Nat} (hx : x < 256 ^ 90) (hy : y < 256 ^ 90) : lim otab.get D23 (.fn 10) [pI x, pI y] h = some (pI (x * y), h) := lim_oracle (or_hit (spec := mulI) (by
  show (bif kcan (nb x) && kcan (nb y) then mkI (Bool.rec (motive := fun _ => Bool) false (Bool.rec (motive := fun _ => Bool) true false false) false) (kv (nb x) * kv (nb y)) else none) = _
  rw [kcan_nb hx, kcan_nb hy, mkI_eq, kv_eq, kv_eq, nv_nb, nv_nb]; rfl))
theorem q_from {n : Nat} (hn : n ≤ 1000000000000000000) : lim otab.get D23 (.fn 11) [.int .i64 (n : Int)] h = some (pI n, h) := lim_oracle (or_hit (spec := ofI) (by
  show (bif decide (-1000000000000000000 ≤ (n : Int)) && decide ((n : Int) ≤ 1000000000000000000) then mkI (decide ((n : Int) < 0)) (n : Int).natAbs else none) = _
  rw [decide_eq_true (by omega), decide_eq_true (by omega), decide_eq_false (by omega), mkI_eq, Int.natAbs_natCast]; rfl))
theorem q_fromn {n : Int} (h1 : -1000000000000000000 ≤ n) (h2 : n < 0) : lim otab.get D23 (.fn 11) [.int .i64 n] h = some (mkP true n.natAbs, h) := lim_oracle (or_hit (spec := ofI) (by
  show (bif decide (-1000000000000000000 ≤ n) && decide (n ≤ 1000000000000000000) then mkI (decide (n < 0)) n.natAbs else none) = _
  rw [decide_eq_true h1, decide_eq_true (by omega), decide_eq_true h2, mkI_eq]; rfl))
theorem q_from4 : lim otab.get D23 (.fn 11) [.int .i64 (-4)] h = some (.agg [.bool true, .str (nb 4)], h) := q_fromn (by decide) (by decide)
theorem q_sub {x y : Nat} (hx : x < 256 ^ 90) (hy : y < 256 ^ 90) (h0 : y ≠ 0) : lim otab.get D23 (.fn 9) [pI x, pI y] h = some (if x < y then mkP true (y - x) else mkP false (x - y), h) := lim_oracle (or_hit (spec := subI) (by
  show (bif kcan (nb x) && kcan (nb y) then frc (kv (nb x)) fun x => frc (kv (nb y)) fun y => addQ false x (Bool.rec (motive := fun _ => Bool) (Bool.rec (motive := fun _ => Bool) true false (Nat.beq y 0)) false false) y else none) = _
  have hb : Nat.beq y 0 = false := by cases hb : Nat.beq y 0 with | false => rfl | true => exact absurd (Nat.eq_of_beq_eq_true hb) h0
  rw [kcan_nb hx, kcan_nb hy, frc_eq, frc_eq, kv_eq, kv_eq, nv_nb, nv_nb, hb, addQ_eq]; rfl))
theorem q_val {x : Nat} (hx : x < 256 ^ 90) : lim otab.get D23 (.fn 7) [pI x] h = some (.bool true, h) := lim_oracle (or_hit (spec := valS) (by
  show (bif kcan (nb x) then some (AV.bool true) else none) = _
  rw [kcan_nb hx]; rfl))
theorem q_sgn {x : Nat} (h0 : x ≠ 0) : lim otab.get D23 (.fn 8) [pI x] h = some (.int .i64 1, h) := by
  have : lim otab.get D23 (.fn 8) [pI x] h = some (.int .i64 (if nb x = [] then 0 else 1), h) := lim_oracle rfl
  rw [if_neg (nb_ne h0)] at this
  exact this
theorem q_cmp {x y : Nat} (hx : x < 256 ^ 90) (hy : y < 256 ^ 90) (x0 : x ≠ 0) (y0 : y ≠ 0) : lim otab.get D23 (.fn 12) [pI x, pI y] h = some (.int .i64 (cmpN x y), h) := lim_oracle (or_hit (spec := icmS) (by
  show (bif kcan (nb x) && kcan (nb y) && (!decide (nb x = []) && !decide (nb y = [])) then some (AV.int .i64 (cmpN (nv (nb x)) (nv (nb y)))) else none) = _
  rw [kcan_nb hx, kcan_nb hy, decide_eq_false (nb_ne x0), decide_eq_false (nb_ne y0), nv_nb, nv_nb]; rfl))
theorem q_isq {x : Nat} (hx : x < 256 ^ 8) (x0 : x ≠ 0) (hs : ∀ r, r * r ≠ x) : lim otab.get D23 (.fn 13) [pI x] h = some (.tup [.agg [.bool false, .str []], .bool false], h) := lim_oracle (or_hit (spec := isqS) (if_pos ⟨kcan_nb (Nat.lt_of_lt_of_le hx (Nat.pow_le_pow_right (by decide) (by decide))), nb_len hx, by rw [nv_nb]; exact x0, by rw [nv_nb]; exact hs⟩))
theorem q_aw : lim otab.get D23 (.fn 5) [] h = some (.bool true, h) := lim_oracle rfl
theorem q_fund {n : Int} : lim otab.get D23 (.fn 4) [.int .i64 n] h = some (.bool (decide (lg n = 0 ∧ fundP n)), h) := lim_oracle rfl
end
section
variable {K : List Fr} {Q : AX → St → Prop}
noncomputable def uqI : ACode := match of3.body with | .seq _ (.seq _ (.seq _ (.seq _ (.seq _ (.seq (.seq _ (.block _ (.loop (.seq _ (.seq (.block _ (.seq _ (.block _ (.loop b)))) _))))) _))))) => b | c => c
noncomputable def uqB : ACode := match of3.body with | .seq _ (.seq _ (.seq _ (.seq _ (.seq _ (.seq (.seq _ (.block _ (.loop b))) _))))) => b | c => c
theorem uq_loop {d t u : Nat} (d5 : 5 ≤ d) (d1 : d ≤ 1000) (u1 : u ≠ 0) (ub : u < 256 ^ 90) (ns : ∀ j, 1 ≤ j → j < 3000 → j < u → (∀ x, x * x ≠ d * j * j + 4) ∧ (∀ x, x * x ≠ d * j * j - 4)) : ∀ (m k : Nat) (h : AHeap) (y1 y2 y3 y5 y6 y7 : AV), k + m = 3000 → 1 ≤ k → h.get 0 = some (.cells [.bool false, .str (nb t), .bool false, .str (nb u)] true) → 0 < h.next →
    (∀ (h' : AHeap) (z1 z2 z3 z4 z5 z6 z7 : AV), WX (lim otab.get D23) (.exit 0) K ⟨[.int .u16 (d : Int), z1, z2, z3, z4, z5, z6, z7, .ptr 0 0], h'⟩ Q) →
    WK (lim otab.get D23) (.loop uqB) K ⟨[.int .u16 (d : Int), y1, y2, y3, .int .i64 (k : Int), y5, y6, y7, .ptr 0 0], h⟩ Q := by
  intro m
  induction m with
  | zero =>
    intro k h y1 y2 y3 y5 y6 y7 hk k1 g0 hn hQ
    refine WK_loop' (by dsimp only [uqB, of3]) ?_
    have e0 : ¬ (k : Int) < 3000 := by omega
    simp only [RSd.down, DGs, DG_ft, dgLow, AOp.cls, lower, WDs_pick, lss_int, e0, decide_false]
    exact hQ _ _ _ _ _ _ _ _
  | succ m ih =>
    intro k h y1 y2 y3 y5 y6 y7 hk k1 g0 hn hQ
    refine WK_loop' (by dsimp only [uqB, of3]) ?_
    have e0 : (k : Int) < 3000 := by omega
    have cf := fun h => q_from (h := h) (n := k) (by omega)
    have cc := fun h => q_cmp (h := h) (x := k) (y := u) (Nat.lt_of_lt_of_le (show k < 256 ^ 2 by omega) (Nat.pow_le_pow_right (by decide) (by decide))) ub (by omega) u1
    by_cases hu : k < u
    · have hc : decide (cmpN k u < 0) = true := by rw [cmpN_lt hu]; rfl
      obtain ⟨ns1, ns2⟩ := ns k k1 (by omega) hu
      have hkk : d * k * k ≤ 1000 * 3000 * 3000 := Nat.mul_le_mul (Nat.mul_le_mul d1 (by omega)) (by omega)
      have hk2 : d * k ≤ 1000 * 3000 := Nat.mul_le_mul d1 (by omega)
      have hk3 : 5 * 1 * 1 ≤ d * k * k := Nat.mul_le_mul (Nat.mul_le_mul d5 k1) k1
      have m1 : (d : Int) * (k : Int) = ((d * k : Nat) : Int) := by rw [Int.natCast_mul]
      have m2 : ((d * k : Nat) : Int) * (k : Int) = ((d * k * k : Nat) : Int) := by rw [Int.natCast_mul (d * k)]
      have m3 : ((d * k * k : Nat) : Int) + 4 = ((d * k * k + 4 : Nat) : Int) := rfl
      have m4 : ((d * k * k : Nat) : Int) + -4 = ((d * k * k - 4 : Nat) : Int) := by omega
      have p8 : (256 : Nat) ^ 8 = 18446744073709551616 := by decide
      have f1 := fun h => q_from (h := h) (n := d * k * k + 4) (by omega)
      have f2 := fun h => q_from (h := h) (n := d * k * k - 4) (by omega)
      have i1 := fun h => q_isq (h := h) (x := d * k * k + 4) (by omega) (by omega) ns1
      have i2 := fun h => q_isq (h := h) (x := d * k * k - 4) (by omega) (by omega) ns2
      simp only [RSd.down, DGs, DG_tt, WDs_faddr, WDs_load, evalQ_fadI, fadI_2, l42b g0, WDV_succ, cf, cc, WDE_some, checks, lower, recheck, AOp.cls, AV.beq_refl, cond_true, true_and, WDs_pick, lss_int, e0, decide_true, hc]
      rw [bslice2w (v := .int .i64 4) (w := .int .i64 (-4)) rfl rfl rfl rfl]
      simp only [RSd.down, len_sl]
      have ga : (h.push (.cells [.int .i64 4, .int .i64 (-4)] true)).get h.next = some (.cells [.int .i64 4, .int .i64 (-4)] true) := AHeap.get_push_same h _
      obtain ⟨h1, hh1⟩ : ∃ h1, h1 = h.push (.cells [.int .i64 4, .int .i64 (-4)] true) := ⟨_, rfl⟩
      rw [← hh1] at ga ⊢
      have hn1 : h1.next = h.next + 1 := by rw [hh1, AHeap.next_push]
      have la : loadV none (.ptr h.next 0) h1 = some (.int .i64 4) := loadV_at (cellsOf_get ga) rfl
      have a0 : iaddrV 1 (.slice h.next 0 2 (.exact 2)) (.int .i64 0) = some (.ptr h.next 0) := rfl
      have a1 : iaddrV 1 (.slice h.next 0 2 (.exact 2)) (.int .i64 1) = some (.ptr h.next 1) := rfl
      refine WK_loop ?_
      simp (disch := omega) only [RSd.down, lss_int, show decide ((0 : Int) < ((2 : Nat) : Int)) = true from rfl, a0, la, toIntV_i64, mul_i64, m1, m2, add_i64, m3, f1, i1, alA]
      obtain ⟨h2, hh2⟩ : ∃ h2, h2 = h1.push (.cells [.bool false, .str []] true) := ⟨_, rfl⟩
      have g2 : h2.get h1.next = some (.cells [.bool false, .str []] true) := by rw [hh2]; exact AHeap.get_push_same h1 _
      rw [← hh2]
      simp only [RSd.down, evalE_stI, stI2 (x := .bool false) (y := .str []) g2 rfl rfl]
      obtain ⟨h3, hh3⟩ : ∃ h3, h3 = h2.set h1.next (.cells [.bool false, .str []] true) := ⟨_, rfl⟩
      have hn3 : h3.next = h.next + 2 := by rw [hh3, AHeap.next_set, hh2, AHeap.next_push, hn1]
      have ga3 : h3.get h.next = some (.cells [.int .i64 4, .int .i64 (-4)] true) := by
        rw [hh3, AHeap.get_set_ne _ _ (by omega), hh2, AHeap.get_push_lt _ _ (by omega)]; exact ga
      have g03 : h3.get 0 = some (.cells [.bool false, .str (nb t), .bool false, .str (nb u)] true) := by
        rw [hh3, AHeap.get_set_ne _ _ (by omega), hh2, AHeap.get_push_lt _ _ (by omega), hh1, AHeap.get_push_lt _ _ hn]; exact g0
      have lb : loadV none (.ptr h.next 1) h3 = some (.int .i64 (-4)) := loadV_at (cellsOf_get ga3) rfl
      rw [← hh3]
      simp (disch := omega) only [RSd.down, add_i64, show (0 : Int) + 1 = 1 from rfl]
      refine WK_loop ?_
      simp (disch := omega) only [RSd.down, lss_int, show decide ((1 : Int) < ((2 : Nat) : Int)) = true from rfl, a1, lb, toIntV_i64, mul_i64, m1, m2, add_i64, m4, f2, i2, alA]
      obtain ⟨h4, hh4⟩ : ∃ h4, h4 = h3.push (.cells [.bool false, .str []] true) := ⟨_, rfl⟩
      have g4 : h4.get h3.next = some (.cells [.bool false, .str []] true) := by rw [hh4]; exact AHeap.get_push_same h3 _
      rw [← hh4]
      simp only [RSd.down, evalE_stI, stI2 (x := .bool false) (y := .str []) g4 rfl rfl]
      simp (disch := omega) only [RSd.down, add_i64, show (1 : Int) + 1 = 2 from rfl]
      refine WK_loop ?_
      simp (disch := omega) only [RSd.down, lss_int, show decide ((2 : Int) < ((2 : Nat) : Int)) = false from rfl, add_i64, show (k : Int) + 1 = ((k + 1 : Nat) : Int) from rfl]
      refine ih (k + 1) _ _ _ _ _ _ _ (by omega) (by omega) ?_ ?_ hQ
      · rw [AHeap.get_set_ne _ _ (by omega), hh4, AHeap.get_push_lt _ _ (by omega)]; exact g03
      · rw [AHeap.next_set, hh4, AHeap.next_push]; omega
    · have hc : decide (cmpN k u < 0) = false := by
        rcases Nat.lt_or_ge u k with g | g
        · rw [cmpN_gt g]; rfl
        · have : k = u := by omega
          rw [this, cmpN_eq]; rfl
      simp only [RSd.down, DGs, DG_tt, WDs_faddr, WDs_load, evalQ_fadI, fadI_2, l42b g0, WDV_succ, cf, cc, WDE_some, checks, lower, recheck, AOp.cls, AV.beq_refl, cond_true, true_and, WDs_pick, lss_int, e0, decide_true, hc]
      exact hQ _ _ _ _ _ _ _ _
end
theorem ent_facts {d t u s : Nat} {neg : Bool} (h : entK d t u neg s = true) : 5 ≤ d ∧ d ≤ 1000 ∧ 1 ≤ t ∧ 1 ≤ u ∧ t ≤ 2 ^ 100 ∧ u ≤ 2 ^ 100 ∧ ((neg = false ∧ t * t = d * u * u + 4) ∨ (neg = true ∧ t * t + 4 = d * u * u)) ∧ ∀ j, 1 ≤ j → j < 3000 → j < u → (∀ x, x * x ≠ d * j * j + 4) ∧ (∀ x, x * x ≠ d * j * j - 4) := by
  unfold entK at h
  cases hc : (Nat.ble 5 d && Nat.ble d 1000 && Nat.ble 1 t && Nat.ble 1 u && Nat.ble t (2 ^ 100) && Nat.ble u (2 ^ 100) && Bool.rec (motive := fun _ => Bool) (Nat.beq (t * t) (d * u * u + 4)) (Nat.beq (t * t + 4) (d * u * u)) neg : Bool) with
  | false => rw [hc] at h; exact nomatch h
  | true =>
    rw [hc] at h
    have h : ckF d s u 2999 1 s (s - 1) = true := h
    simp only [Bool.and_eq_true] at hc
    obtain ⟨⟨⟨⟨⟨⟨c1, c2⟩, c3⟩, c4⟩, c5⟩, c6⟩, c7⟩ := hc
    refine ⟨Nat.le_of_ble_eq_true c1, Nat.le_of_ble_eq_true c2, Nat.le_of_ble_eq_true c3, Nat.le_of_ble_eq_true c4, Nat.le_of_ble_eq_true c5, Nat.le_of_ble_eq_true c6, ?_, fun j j1 j2 j3 => ckF_ok 2999 1 s (s - 1) h j j1 (by omega) j3⟩
    cases neg with
    | false => exact .inl ⟨rfl, Nat.eq_of_beq_eq_true c7⟩
    | true => exact .inr ⟨rfl, Nat.eq_of_beq_eq_true c7⟩
theorem uqLaw {d : Int} (h0 : 0 ≤ d) (hall : ∀ e ∈ ftl, ∃ s, entK e.1 e.2.1 e.2.2.1 e.2.2.2 s = true) : ∃ h', lim otab.get D23 (.fn 3) [.int .u16 d] .empty = some (.bool true, h') := by
  refine run_of (fn := of3) rfl rfl ?_
  show WK _ _ [] ⟨[.int .u16 d, aundef, aundef, aundef, aundef, aundef, aundef, aundef, aundef], .empty⟩ _
  dsimp only [of3]
  by_cases t1 : 1000 < d
  · simp only [RSd.down, gtr_int, t1, decide_true, q_aw, Ret_ret, result_1]
  by_cases t2 : lg d = 0 ∧ fundP d
  · obtain ⟨k, rfl⟩ := Int.eq_ofNat_of_zero_le h0
    obtain ⟨e, he⟩ := covK_spec cov k (by omega) t2.2
    obtain ⟨m1, m2⟩ := lkp_some he
    obtain ⟨s, hs⟩ := hall e m1
    obtain ⟨d', t, u, neg⟩ := e
    dsimp only at m2 hs
    subst m2
    obtain ⟨d5, d1, tp, up, tb, ub, hn, ns⟩ := ent_facts hs
    have tb' : t < 256 ^ 90 := Nat.lt_of_le_of_lt tb (by decide)
    have ub' : u < 256 ^ 90 := Nat.lt_of_le_of_lt ub (by decide)
    have tt' : t * t < 256 ^ 90 := Nat.lt_of_le_of_lt (Nat.mul_le_mul tb tb) (by decide)
    have uu : u * u ≤ 2 ^ 100 * 2 ^ 100 := Nat.mul_le_mul ub ub
    have uu' : u * u < 256 ^ 90 := Nat.lt_of_le_of_lt uu (by decide)
    have duu' : d' * (u * u) < 256 ^ 90 := Nat.lt_of_le_of_lt (Nat.mul_le_mul d1 uu) (by decide)
    have dd' : d' < 256 ^ 90 := Nat.lt_of_lt_of_le (show d' < 256 ^ 2 by omega) (Nat.pow_le_pow_right (by decide) (by decide))
    have uu1 : 1 * 1 ≤ u * u := Nat.mul_le_mul up up
    have duu1 : 5 * 1 ≤ d' * (u * u) := Nat.mul_le_mul d5 uu1
    have hass : d' * u * u = d' * (u * u) := Nat.mul_assoc _ _ _
    have cF : ∀ h, lim otab.get D23 (.fn 6) [.int .i64 (d' : Int)] h = some (fuV t u neg, h) := fun h => lim_oracle (ext_hit (by
      show (bif decide ((0 : Int) ≤ (d' : Int)) then (match lkp (d' : Int).toNat ftl with | some e => some (fuV e.2.1 e.2.2.1 e.2.2.2) | none => none) else none) = _
      rw [decide_eq_true (by omega), Int.toNat_natCast, he]; rfl))
    have g1 : (AHeap.empty.push (.cells zC true)).get 0 = some (.cells zC true) := hp1
    have g1' : (AHeap.empty.push (.cells zC true)).get AHeap.empty.next = some (.cells zC true) := g1
    have hfu : fuV t u neg = .tup [.agg [.bool false, .str (nb t), .bool false, .str (nb u)], .int .i64 (Bool.rec (motive := fun _ => Int) 1 (-1) neg), .int .i64 0] := rfl
    obtain ⟨H, hH⟩ : ∃ H, H = (AHeap.empty.push (.cells zC true)).set AHeap.empty.next (.cells [.bool false, .str (nb t), .bool false, .str (nb u)] true) := ⟨_, rfl⟩
    have gH : H.get 0 = some (.cells [.bool false, .str (nb t), .bool false, .str (nb u)] true) := by rw [hH]; exact AHeap.get_set_same _ _ _
    have hHn : 0 < H.next := by rw [hH, AHeap.next_set, AHeap.next_push]; exact Nat.succ_pos _
    have st := stI4g (x := .bool false) (y := .str (nb t)) (z := .bool false) (w := .str (nb u)) g1' rfl rfl rfl rfl
    rw [← hH] at st
    have v1 := fun h => q_val (h := h) tb'
    have v2 := fun h => q_val (h := h) ub'
    have s1 := fun h => q_sgn (h := h) (x := t) (by omega)
    have s2 := fun h => q_sgn (h := h) (x := u) (by omega)
    have a1 := fun h => q_mul (h := h) tb' tb'
    have a2 := fun h => q_from (h := h) (n := d') (by omega)
    have a3 := fun h => q_mul (h := h) ub' ub'
    have a4 := fun h => q_mul (h := h) dd' uu'
    have a5 := fun h => q_sub (h := h) tt' duu' (by omega)
    have fin : ∀ (h' : AHeap) (z1 z2 z3 z4 z5 z6 z7 : AV), WX (lim otab.get D23) (.exit 0) [.block 0, .seq (match of3.body with | .seq _ (.seq _ (.seq _ (.seq _ (.seq _ (.seq _ c))))) => c | c => c)] ⟨[.int .u16 (d' : Int), z1, z2, z3, z4, z5, z6, z7, .ptr 0 0], h'⟩ (Ret [.tmp 1] (.bool true)) := by
      intro h' z1 z2 z3 z4 z5 z6 z7
      dsimp only [of3]
      simp only [RSd.down, q_aw, Ret_ret, result_1]
    rcases hn with ⟨rfl, hn⟩ | ⟨rfl, hn⟩
    · have hsub : (if t * t < d' * (u * u) then mkP true (d' * (u * u) - t * t) else mkP false (t * t - d' * (u * u))) = pI 4 := by
        rw [if_neg (by clear tb' ub' tt' uu uu' duu' dd' tb ub a1 a2 a3 a4 a5 v1 v2; omega), show t * t - d' * (u * u) = 4 by clear tb' ub' tt' uu uu' duu' dd' tb ub a1 a2 a3 a4 a5 v1 v2; omega]; rfl
      rw [hsub] at a5
      have a6 : ∀ h, lim otab.get D23 (.fn 11) [.int .i64 4] h = some (pI 4, h) := fun h => q_from (h := h) (n := 4) (by decide)
      clear tb' tt' uu uu' duu' dd' tb ub
      simp (disch := omega) only [RSd.down, gtr_int, t1, decide_false, toIntV_i64, q_fund, t2, decide_true, not_bool, Bool.not_true, cF, hfu, show (Bool.rec (motive := fun _ => Int) 1 (-1) false) = 1 from rfl, alA, evalE_stI, st, neq_int, show decide ((0 : Int) ≠ 0) = false from rfl, show decide ((1 : Int) ≠ 1) = false from rfl, WOs_faddr, evalQ_fadI, fadI_0, fadI_2, l42a gH, l42b gH, v1, v2, s1, s2, leq_int, show decide ((1 : Int) ≤ 0) = false from rfl, WDs_faddr, WDs_load, WDs_toInt, WDV_succ, mul_i64, show (4 : Int) * 1 = 4 from rfl, a1, a2, a3, a4, WDE_some, checks, lower, recheck, AOp.cls, AV.beq_refl, cond_true, true_and, a5, a6, neq02]
      exact uq_loop (t := t) d5 d1 (by omega) ub' ns 2999 1 H _ _ _ _ _ _ rfl (Nat.le_refl _) gH hHn fin
    · have hsub : (if t * t < d' * (u * u) then mkP true (d' * (u * u) - t * t) else mkP false (t * t - d' * (u * u))) = .agg [.bool true, .str (nb 4)] := by
        rw [if_pos (by clear tb' ub' tt' uu uu' duu' dd' tb ub a1 a2 a3 a4 a5 v1 v2; omega), show d' * (u * u) - t * t = 4 by clear tb' ub' tt' uu uu' duu' dd' tb ub a1 a2 a3 a4 a5 v1 v2; omega]; rfl
      rw [hsub] at a5
      have a6 : ∀ h, lim otab.get D23 (.fn 11) [.int .i64 (-4)] h = some (.agg [.bool true, .str (nb 4)], h) := fun h => q_from4
      clear tb' tt' uu uu' duu' dd' tb ub
      simp (disch := omega) only [RSd.down, gtr_int, t1, decide_false, toIntV_i64, q_fund, t2, decide_true, not_bool, Bool.not_true, cF, hfu, show (Bool.rec (motive := fun _ => Int) 1 (-1) true) = -1 from rfl, alA, evalE_stI, st, neq_int, show decide ((0 : Int) ≠ 0) = false from rfl, show decide ((-1 : Int) ≠ 1) = true from rfl, show decide ((-1 : Int) ≠ -1) = false from rfl, WOs_faddr, evalQ_fadI, fadI_0, fadI_2, l42a gH, l42b gH, v1, v2, s1, s2, leq_int, show decide ((1 : Int) ≤ 0) = false from rfl, WDs_faddr, WDs_load, WDs_toInt, WDV_succ, mul_i64, show (4 : Int) * -1 = -4 from rfl, a1, a2, a3, a4, WDE_some, checks, lower, recheck, AOp.cls, AV.beq_refl, cond_true, true_and, a5, a6, neq02]
      exact uq_loop (t := t) d5 d1 (by omega) ub' ns 2999 1 H _ _ _ _ _ _ rfl (Nat.le_refl _) gH hHn fin
  · simp (disch := omega) only [RSd.down, gtr_int, t1, decide_false, toIntV_i64, q_fund, t2, not_bool, Bool.not_false, q_aw, Ret_ret, result_1]
end Go.AM
