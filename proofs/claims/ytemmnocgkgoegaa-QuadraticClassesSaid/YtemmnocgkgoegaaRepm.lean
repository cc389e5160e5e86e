/- Represent: what the code computes. No condition. -/
import Derived.Test.YtemmnocgkgoegaaFacm
set_option maxRecDepth 100000
set_option linter.unusedSimpArgs false
namespace Go.AM
open Go
/-- the root, rounded down -/
def rtF : Nat → Nat → Nat → Nat
  | 0, r, _ => r
  | f + 1, r, n => if (r + 1) * (r + 1) ≤ n then rtF f (r + 1) n else r
def rt (n : Nat) : Nat := rtF 1000 0 n
theorem rtF_ok : ∀ (f r n : Nat), n < (r + 1 + f) * (r + 1 + f) → r * r ≤ n → rtF f r n * rtF f r n ≤ n ∧ n < (rtF f r n + 1) * (rtF f r n + 1)
  | 0, r, n, h, h0 => ⟨h0, h⟩
  | f + 1, r, n, h, h0 => by
    unfold rtF
    by_cases e : (r + 1) * (r + 1) ≤ n
    · rw [if_pos e]
      exact rtF_ok f (r + 1) n (by rw [show r + 1 + 1 + f = r + 1 + (f + 1) by omega]; exact h) e
    · rw [if_neg e]; exact ⟨h0, by omega⟩
theorem rt_ok {n : Nat} (h : n ≤ 1000000) : rt n * rt n ≤ n ∧ n < (rt n + 1) * (rt n + 1) := rtF_ok 1000 0 n (by omega) (by omega)
theorem rt_le {n : Nat} (h : n ≤ 1000000) : rt n ≤ 1000 := by
  have h1 := (rt_ok h).1
  rcases Nat.lt_or_ge 1000 (rt n) with e | e
  · have : 1001 * 1001 ≤ rt n * rt n := Nat.mul_le_mul e e
    omega
  · exact e
theorem rt_sq {r : Nat} (h : r * r ≤ 1000000) : rt (r * r) = r := by
  obtain ⟨h1, h2⟩ := rt_ok h
  have a : rt (r * r) ≤ r := by
    rcases Nat.lt_or_ge r (rt (r * r)) with e | e
    · have := Nat.mul_le_mul (Nat.succ_le_of_lt e) (Nat.succ_le_of_lt e)
      have e2 : (r + 1) * (r + 1) = r * r + 2 * r + 1 := by rw [Nat.add_mul, Nat.mul_add]; omega
      simp only [Nat.succ_eq_add_one] at this
      omega
    · exact e
  have b : r < rt (r * r) + 1 := lt_of_sq h2
  omega
section
variable {C : CallT} {K : List Fr} {Q : AX → St → Prop} {h : AHeap}
noncomputable def rootB : ACode := match of62.body with | .seq _ (.seq _ (.seq (.block _ (.loop b)) _)) => b | c => c
theorem root_loop {n : Nat} (hn : n ≤ 1000000) : ∀ (f r : Nat) (y2 y3 : AV), r + f = 1000 →
    (∀ z2 z3 : AV, WX C (.exit 0) K ⟨[.int .i64 (n : Int), .int .i64 (rtF f r n : Int), z2, z3], h⟩ Q) →
    WK C (.loop rootB) K ⟨[.int .i64 (n : Int), .int .i64 (r : Int), y2, y3], h⟩ Q := by
  intro f
  induction f with
  | zero =>
    intro r y2 y3 hf hQ
    refine WK_loop' (by dsimp only [rootB, of62]) ?_
    have hr : r = 1000 := by omega
    subst hr
    have e2 : ¬ ((1000 : Nat) : Int) + 1 ≤ 0 := by omega
    have e1 : (((1000 : Nat) : Int) + 1) * (((1000 : Nat) : Int) + 1) = 1002001 := by decide
    have e3 : ¬ (1002001 : Int) ≤ (n : Int) := by omega
    simp (disch := omega) only [RSd.down, add_i64, mul_i64, e1, leq_int, e3, decide_false]
    exact hQ _ _
  | succ f ih =>
    intro r y2 y3 hf hQ
    refine WK_loop' (by dsimp only [rootB, of62]) ?_
    have e1 : ((r : Int) + 1) * ((r : Int) + 1) = (((r + 1) * (r + 1) : Nat) : Int) := by simp
    have hb : (r + 1) * (r + 1) ≤ 1001 * 1001 := Nat.mul_le_mul (by omega) (by omega)
    unfold rtF at hQ
    by_cases e : (r + 1) * (r + 1) ≤ n
    · have e3 : (((r + 1) * (r + 1) : Nat) : Int) ≤ (n : Int) := by omega
      simp (disch := omega) only [RSd.down, add_i64, mul_i64, e1, leq_int, e3, decide_true]
      simp only [if_pos e] at hQ
      exact ih (r + 1) _ _ (by omega) hQ
    · have e3 : ¬ (((r + 1) * (r + 1) : Nat) : Int) ≤ (n : Int) := by omega
      simp (disch := omega) only [RSd.down, add_i64, mul_i64, e1, leq_int, e3, decide_false]
      simp only [if_neg e] at hQ
      exact hQ _ _
noncomputable def sqrB : ACode := match of63.body with | .seq _ (.seq _ (.seq (.block _ (.loop b)) _)) => b | c => c
theorem sqr_loop {n : Nat} (hn : n ≤ 1000000) : ∀ (f r : Nat) (y2 : AV), r + f = 1000 → (∀ s, s < r → s * s < n) →
    (∀ (r' : Nat) (z2 : AV), r' ≤ 1000 → n ≤ r' * r' → (∀ s, s < r' → s * s < n) → WX C (.exit 0) K ⟨[.int .i64 (n : Int), .int .i64 (r' : Int), z2], h⟩ Q) →
    WK C (.loop sqrB) K ⟨[.int .i64 (n : Int), .int .i64 (r : Int), y2], h⟩ Q := by
  intro f
  induction f with
  | zero =>
    intro r y2 hf hs hQ
    refine WK_loop' (by dsimp only [sqrB, of63]) ?_
    have hr : r = 1000 := by omega
    subst hr
    have e1 : ((1000 : Nat) : Int) * ((1000 : Nat) : Int) = 1000000 := by decide
    have e3 : ¬ (1000000 : Int) < (n : Int) := by omega
    simp (disch := omega) only [RSd.down, mul_i64, e1, lss_int, e3, decide_false]
    exact hQ 1000 _ (by omega) (by omega) hs
  | succ f ih =>
    intro r y2 hf hs hQ
    refine WK_loop' (by dsimp only [sqrB, of63]) ?_
    have e1 : (r : Int) * (r : Int) = ((r * r : Nat) : Int) := by simp
    have hb : r * r ≤ 1000 * 1000 := Nat.mul_le_mul (by omega) (by omega)
    by_cases e : r * r < n
    · have e3 : ((r * r : Nat) : Int) < (n : Int) := by omega
      simp (disch := omega) only [RSd.down, mul_i64, e1, lss_int, e3, decide_true, add_i64, show (r : Int) + 1 = ((r + 1 : Nat) : Int) from rfl]
      refine ih (r + 1) _ (by omega) (fun s h => ?_) hQ
      rcases Nat.lt_or_ge s r with h1 | h1
      · exact hs s h1
      · have : s = r := by omega
        subst this; exact e
    · have e3 : ¬ ((r * r : Nat) : Int) < (n : Int) := by omega
      simp (disch := omega) only [RSd.down, mul_i64, e1, lss_int, e3, decide_false]
      exact hQ r _ (by omega) (by omega) hs
end
noncomputable def rootS : List AV → Option AV
  | [.int .i64 n] => if 0 ≤ n ∧ n ≤ 1000000 then some (.int .i64 (rt n.toNat : Int)) else none
  | _ => none
theorem root_run {n : Nat} (hn : n ≤ 1000000) : ∃ h', lim otab.get I16 (.fn 62) [.int .i64 (n : Int)] .empty = some (.int .i64 (rt n : Int), h') := by
  refine run_of (fn := of62) rfl rfl ?_
  show WK _ _ [] ⟨[.int .i64 (n : Int), aundef, aundef, aundef], .empty⟩ _
  dsimp only [of62]
  simp only [RSd.down]
  refine root_loop hn 1000 0 _ _ rfl fun z2 z3 => ?_
  simp only [RSd.down, Ret_ret, result_1]; rfl
noncomputable def I17 : Oracle := ext I16 62 rootS
theorem I17_ok : IOK Go.Proofs.Try.prog I17 := IOK.extL mixed tabOK otabOK I16_ok (g := 62) (fn := af62) rfl fun args av h => by
  unfold rootS at h
  split at h
  · split at h
    · rename_i n hn
      cases h
      obtain ⟨m, rfl⟩ := Int.eq_ofNat_of_zero_le hn.1
      exact ⟨rfl, rfl, root_run (by omega)⟩
    · cases h
  · cases h
/-- the reference's test of squares: the answer, told where it is yes -/
theorem sqr_lim {n : Nat} (hn : n ≤ 1000000) (h : AHeap) : ∃ r : Nat, r ≤ 1000 ∧ lim otab.get I17 (.fn 63) [.int .i64 (n : Int)] h = some (.tup [.int .i64 (r : Int), .bool (decide (rt n * rt n = n))], h) ∧ (rt n * rt n = n → r = rt n) := by
  have key := lim_walk_ex (T := otab.get) (I := I17) (fn := of63) (f := 63) rfl (a := [.int .i64 (n : Int)]) (h := h)
    (P := fun v h' => h' = h ∧ ∃ r : Nat, r ≤ 1000 ∧ v = .tup [.int .i64 (r : Int), .bool (decide (rt n * rt n = n))] ∧ (rt n * rt n = n → r = rt n)) rfl ?_
  · obtain ⟨v, h', e, rfl, r, h1, rfl, h2⟩ := key
    exact ⟨r, h1, e, h2⟩
  · show WK _ _ [] ⟨[.int .i64 (n : Int), aundef, aundef], h⟩ _
    dsimp only [of63]
    simp only [RSd.down]
    refine sqr_loop hn 1000 0 _ rfl (fun s hs => by omega) fun r z2 h1 h2 h3 => ?_
    have e1 : (r : Int) * (r : Int) = ((r * r : Nat) : Int) := by simp
    have hb : r * r ≤ 1000 * 1000 := Nat.mul_le_mul h1 h1
    have hiff : (((r * r : Nat) : Int) = (n : Int)) ↔ rt n * rt n = n := by
      constructor
      · intro e
        have : n = r * r := by omega
        rw [this, rt_sq (by omega)]
      · intro e
        have : rt n = r := by
          rcases Nat.lt_or_ge (rt n) r with h4 | h4
          · have := h3 _ h4; omega
          · have := Nat.mul_le_mul h4 h4
            have h5 : r * r = n := by omega
            rw [← h5, rt_sq (by omega)]
        rw [← this]; omega
    simp (disch := omega) only [RSd.down, mul_i64, e1, eql_int]
    refine ⟨(fun i hi => by cases hi), _, rfl, trivial, r, h1, ?_, fun e => ?_⟩
    · show AV.tup [.int .i64 (r : Int), .bool (decide (((r * r : Nat) : Int) = (n : Int)))] = _
      rw [decide_eq_decide.2 hiff]
    · have : r * r = n := by have := hiff.2 e; omega
      rw [← this, rt_sq (by omega)]
/-- the search: from x on, f numbers -/
def repF (m p : Nat) : Nat → Nat → Option (Nat × Nat)
  | 0, _ => none
  | f + 1, x => if x * x ≤ 4 * p then (if (4 * p - x * x) % m = 0 ∧ rt ((4 * p - x * x) / m) * rt ((4 * p - x * x) / m) = (4 * p - x * x) / m then some (x, rt ((4 * p - x * x) / m)) else repF m p f (x + 1)) else none
end Go.AM
namespace Go.AM
open Go
theorem hit_iff {rest m : Nat} (hm : 1 ≤ m) (hr : rest ≤ 1000000) : rt (rest / m) * rt (rest / m) * m = rest ↔ (rest % m = 0 ∧ rt (rest / m) * rt (rest / m) = rest / m) := by
  have hq : rest / m ≤ 1000000 := Nat.le_trans (Nat.div_le_self _ _) hr
  have h1 := (rt_ok hq).1
  generalize rt (rest / m) * rt (rest / m) = y at h1 ⊢
  have h2 := Nat.div_add_mod rest m
  constructor
  · intro e
    have h3 : y * m ≤ rest / m * m := Nat.mul_le_mul_right m h1
    rw [Nat.mul_comm (rest / m) m] at h3
    have h4 : rest % m = 0 := by omega
    refine ⟨h4, ?_⟩
    have h5 : y * m = rest / m * m := by rw [Nat.mul_comm (rest / m) m]; omega
    exact Nat.eq_of_mul_eq_mul_right (by omega) h5
  · rintro ⟨h3, h4⟩
    rw [h4, Nat.mul_comm]; omega
section
variable {K : List Fr} {Q : AX → St → Prop} {h : AHeap}
noncomputable def rrepB : ACode := match of30.body with | .seq _ (.seq (.seq _ (.block _ (.loop b))) _) => b | c => c
theorem rrep_loop {m p : Nat} (hm : 1 ≤ m) (hm2 : m ≤ 100000) (hp : p ≤ 100000) : ∀ (f x : Nat) (y3 y4 : AV), x + f = 1000 →
    (∀ a b : Nat, repF m p f x = some (a, b) → WX (lim otab.get I17) .ret K ⟨[.int .i64 (-(m : Int)), .int .i64 (p : Int), .int .i64 (a : Int), .int .i64 (b : Int), .bool true], h⟩ Q) →
    (repF m p f x = none → ∀ z2 z3 z4 : AV, WX (lim otab.get I17) (.exit 0) K ⟨[.int .i64 (-(m : Int)), .int .i64 (p : Int), z2, z3, z4], h⟩ Q) →
    WK (lim otab.get I17) (.loop rrepB) K ⟨[.int .i64 (-(m : Int)), .int .i64 (p : Int), .int .i64 (x : Int), y3, y4], h⟩ Q := by
  intro f
  induction f with
  | zero =>
    intro x y3 y4 hf hR hQ
    refine WK_loop' (by dsimp only [rrepB, of30]) ?_
    have hx : x = 1000 := by omega
    subst hx
    have e1 : ((1000 : Nat) : Int) * ((1000 : Nat) : Int) = 1000000 := by decide
    have e3 : ¬ (1000000 : Int) ≤ 4 * (p : Int) := by omega
    simp (disch := omega) only [RSd.down, mul_i64, e1, leq_int, e3, decide_false]
    exact hQ rfl _ _ _
  | succ f ih =>
    intro x y3 y4 hf hR hQ
    refine WK_loop' (by dsimp only [rrepB, of30]) ?_
    have e1 : (x : Int) * (x : Int) = ((x * x : Nat) : Int) := by simp
    have hb : x * x ≤ 1000 * 1000 := Nat.mul_le_mul (by omega) (by omega)
    unfold repF at hR hQ
    by_cases e : x * x ≤ 4 * p
    · have e3 : ((x * x : Nat) : Int) ≤ 4 * (p : Int) := by omega
      rw [if_pos e] at hR hQ
      have e4 : 4 * (p : Int) - ((x * x : Nat) : Int) = ((4 * p - x * x : Nat) : Int) := by omega
      have hrest : 4 * p - x * x ≤ 400000 := by omega
      generalize 4 * p - x * x = rest at hrest hR hQ e4
      have e5 : ((rest : Nat) : Int) / (m : Int) = ((rest / m : Nat) : Int) := by simp
      have e6 : ((rest : Nat) : Int) % (m : Int) = ((rest % m : Nat) : Int) := by simp
      have hq : rest / m ≤ rest := Nat.div_le_self _ _
      by_cases e8 : rest % m = 0
      · have e9 : ¬ ((rest % m : Nat) : Int) ≠ 0 := by omega
        obtain ⟨r, r1, r2, r3⟩ := sqr_lim (n := rest / m) (by omega) h
        simp (disch := omega) only [RSd.down, mul_i64, e1, leq_int, e3, decide_true, decide_false, sub_i64, e4, neg_i64, Int.neg_neg, rem_pos, e6, neq_int, e9, quo_pos, e5, r2]
        by_cases e10 : rt (rest / m) * rt (rest / m) = rest / m
        · rw [if_pos ⟨e8, e10⟩] at hR
          rw [r3 e10]
          simp only [e10, decide_true, RSd.down]
          exact hR _ _ rfl
        · rw [if_neg (fun hh => e10 hh.2)] at hR hQ
          simp (disch := omega) only [e10, decide_false, RSd.down, add_i64, show (x : Int) + 1 = ((x + 1 : Nat) : Int) from rfl]
          exact ih (x + 1) _ _ (by omega) hR hQ
      · have e9 : (((rest % m : Nat) : Int) ≠ 0) = True := eq_true (by omega)
        rw [if_neg (fun hh => e8 hh.1)] at hR hQ
        simp (disch := omega) only [RSd.down, mul_i64, e1, leq_int, e3, decide_true, decide_false, sub_i64, e4, neg_i64, Int.neg_neg, rem_pos, e6, neq_int, e9, add_i64, show (x : Int) + 1 = ((x + 1 : Nat) : Int) from rfl]
        exact ih (x + 1) _ _ (by omega) hR hQ
    · have e3 : ¬ ((x * x : Nat) : Int) ≤ 4 * (p : Int) := by omega
      rw [if_neg e] at hQ
      simp (disch := omega) only [RSd.down, mul_i64, e1, leq_int, e3, decide_false]
      exact hQ rfl _ _ _
end
/-- the reference's Represent -/
def rrepS : List AV → Option AV
  | [.int .i64 d, .int .i64 p] => if -100000 ≤ d ∧ d < 0 ∧ 1 ≤ p ∧ p ≤ 100000 then some (match repF (-d).toNat p.toNat 1000 0 with
    | some (a, b) => .tup [.int .i64 (a : Int), .int .i64 (b : Int), .bool true]
    | none => .tup [.int .i64 0, .int .i64 0, .bool false]) else none
  | _ => none
theorem rrep_run {m p : Nat} (hm : 1 ≤ m) (hm2 : m ≤ 100000) (hp : p ≤ 100000) : ∃ h', lim otab.get I17 (.fn 30) [.int .i64 (-(m : Int)), .int .i64 (p : Int)] .empty = some (match repF m p 1000 0 with
    | some (a, b) => .tup [.int .i64 (a : Int), .int .i64 (b : Int), .bool true]
    | none => .tup [.int .i64 0, .int .i64 0, .bool false], h') := by
  refine run_of (fn := of30) rfl rfl ?_
  show WK _ _ [] ⟨[.int .i64 (-(m : Int)), .int .i64 (p : Int), aundef, aundef, aundef], .empty⟩ _
  dsimp only [of30]
  simp only [RSd.down]
  refine rrep_loop hm hm2 hp 1000 0 _ _ rfl (fun a b e => ?_) (fun e z2 z3 z4 => ?_)
  · simp only [RSd.down, Ret_ret, result_3, e]
  · simp only [RSd.down, Ret_ret, result_3, e]
noncomputable def I18 : Oracle := ext I17 30 rrepS
theorem I18_ok : IOK Go.Proofs.Try.prog I18 := IOK.extL mixed tabOK otabOK I17_ok (g := 30) (fn := af30) rfl fun args av h => by
  unfold rrepS at h
  split at h
  · split at h
    · rename_i d p hn
      cases h
      refine ⟨rfl, ?_, ?_⟩
      · split <;> rfl
      · have e1 : d = -(((-d).toNat : Nat) : Int) := by omega
        have e2 : p = ((p.toNat : Nat) : Int) := by omega
        have := rrep_run (m := (-d).toNat) (p := p.toNat) (by omega) (by omega) (by omega)
        rw [← e1, ← e2] at this
        exact this
    · cases h
  · cases h
section
variable {K : List Fr} {Q : AX → St → Prop} {h : AHeap}
theorem c_root18 {n : Nat} (hn : n ≤ 1000000) : lim otab.get I18 (.fn 62) [.int .i64 (n : Int)] h = some (.int .i64 (rt n : Int), h) :=
  lim_oracle (or_hit (spec := rootS) (if_pos ⟨by omega, by omega⟩))
noncomputable def repB : ACode := match of28.body with | .seq _ (.seq _ (.seq _ (.seq _ (.seq _ (.seq (.seq _ (.block _ (.loop b))) _))))) => b | c => c
theorem rep_loop {m p : Nat} (hm : 1 ≤ m) (hm2 : m ≤ 100000) (hp : p ≤ 100000) : ∀ (f x : Nat) (y3 y4 y5 y6 : AV), x + f = 1000 →
    (∀ a b : Nat, repF m p f x = some (a, b) → ∀ z5 z6 : AV, WX (lim otab.get I18) .ret K ⟨[.int .i64 (-(m : Int)), .int .i64 (p : Int), .int .i64 (a : Int), .int .i64 (b : Int), .int .i64 0, z5, z6], h⟩ Q) →
    (repF m p f x = none → ∀ z2 z3 z4 z5 z6 : AV, WX (lim otab.get I18) (.exit 0) K ⟨[.int .i64 (-(m : Int)), .int .i64 (p : Int), z2, z3, z4, z5, z6], h⟩ Q) →
    WK (lim otab.get I18) (.loop repB) K ⟨[.int .i64 (-(m : Int)), .int .i64 (p : Int), .int .i64 (x : Int), y3, y4, y5, y6], h⟩ Q := by
  intro f
  induction f with
  | zero =>
    intro x y3 y4 y5 y6 hf hR hQ
    refine WK_loop' (by dsimp only [repB, of28]) ?_
    have hx : x = 1000 := by omega
    subst hx
    have e1 : ((1000 : Nat) : Int) * ((1000 : Nat) : Int) = 1000000 := by decide
    have e3 : ¬ (1000000 : Int) ≤ 4 * (p : Int) := by omega
    simp (disch := omega) only [RSd.down, mul_i64, e1, leq_int, e3, decide_false]
    exact hQ rfl _ _ _ _ _
  | succ f ih =>
    intro x y3 y4 y5 y6 hf hR hQ
    refine WK_loop' (by dsimp only [repB, of28]) ?_
    have e1 : (x : Int) * (x : Int) = ((x * x : Nat) : Int) := by simp
    have hb : x * x ≤ 1000 * 1000 := Nat.mul_le_mul (by omega) (by omega)
    unfold repF at hR hQ
    by_cases e : x * x ≤ 4 * p
    · have e3 : ((x * x : Nat) : Int) ≤ 4 * (p : Int) := by omega
      rw [if_pos e] at hR hQ
      have e4 : 4 * (p : Int) - ((x * x : Nat) : Int) = ((4 * p - x * x : Nat) : Int) := by omega
      have hrest : 4 * p - x * x ≤ 400000 := by omega
      generalize 4 * p - x * x = rest at hrest hR hQ e4
      have e5 : ((rest : Nat) : Int) / (m : Int) = ((rest / m : Nat) : Int) := by simp
      have hq : rest / m ≤ rest := Nat.div_le_self _ _
      have hy := rt_le (n := rest / m) (by omega)
      have hy2 : rt (rest / m) * rt (rest / m) ≤ 1000 * 1000 := Nat.mul_le_mul hy hy
      have hy3 : rt (rest / m) * rt (rest / m) * m ≤ 1000 * 1000 * 100000 := Nat.mul_le_mul hy2 hm2
      have e6 : (rt (rest / m) : Int) * (rt (rest / m) : Int) = ((rt (rest / m) * rt (rest / m) : Nat) : Int) := by simp
      have e7 : ((rt (rest / m) * rt (rest / m) : Nat) : Int) * (m : Int) = ((rt (rest / m) * rt (rest / m) * m : Nat) : Int) := by simp
      have hit := hit_iff hm (show rest ≤ 1000000 by omega)
      by_cases e8 : rt (rest / m) * rt (rest / m) * m = rest
      · rw [if_pos (hit.1 e8)] at hR
        have e9 : ((rt (rest / m) * rt (rest / m) * m : Nat) : Int) = (rest : Int) := by omega
        simp (disch := omega) only [RSd.down, mul_i64, e1, leq_int, e3, decide_true, sub_i64, e4, neg_i64, Int.neg_neg, quo_pos, e5, c_root18, e6, e7, eql_int, e9]
        exact hR _ _ rfl _ _
      · rw [if_neg (fun hh => e8 (hit.2 hh))] at hR hQ
        have e9 : ¬ ((rt (rest / m) * rt (rest / m) * m : Nat) : Int) = (rest : Int) := by omega
        simp (disch := omega) only [RSd.down, mul_i64, e1, leq_int, e3, decide_true, decide_false, sub_i64, e4, neg_i64, Int.neg_neg, quo_pos, e5, c_root18, e6, e7, eql_int, e9, add_i64, show (x : Int) + 1 = ((x + 1 : Nat) : Int) from rfl]
        exact ih (x + 1) _ _ _ _ (by omega) hR hQ
    · have e3 : ¬ ((x * x : Nat) : Int) ≤ 4 * (p : Int) := by omega
      rw [if_neg e] at hQ
      simp (disch := omega) only [RSd.down, mul_i64, e1, leq_int, e3, decide_false]
      exact hQ rfl _ _ _ _ _
end
/-- Represent -/
noncomputable def repV (d p : Int) : AV := if bd [d, p] = 0 then (if 0 ≤ d ∨ ¬ fundP d then .tup [.int .i64 0, .int .i64 0, .int .i64 3] else if prE p = 0 then (match repF (-d).toNat p.toNat 1000 0 with
    | some (a, b) => .tup [.int .i64 (a : Int), .int .i64 (b : Int), .int .i64 0]
    | none => .tup [.int .i64 0, .int .i64 0, .int .i64 10]) else .tup [.int .i64 0, .int .i64 0, .int .i64 7]) else .tup [.int .i64 0, .int .i64 0, .int .i64 4]
theorem bd_two {d p : Int} (h : bd [d, p] = 0) : lg d = 0 ∧ lg p = 0 := by
  simp only [bd] at h
  rcases lg_cases d with ⟨h1, _⟩ | ⟨h1, _⟩
  · rcases lg_cases p with ⟨h2, _⟩ | ⟨h2, _⟩
    · exact ⟨h1, h2⟩
    · simp [h1, h2] at h
  · simp [h1] at h
theorem prE_cases (n : Int) : (prE n = 0 ∧ 1 ≤ n ∧ isPB n.toNat = true) ∨ (prE n = 7 ∧ ¬ (1 ≤ n ∧ isPB n.toNat = true)) := by
  unfold prE
  by_cases h : 1 ≤ n ∧ isPB n.toNat = true
  · rw [if_pos h]; exact .inl ⟨rfl, h⟩
  · rw [if_neg h]; exact .inr ⟨rfl, h⟩
noncomputable def repS : List AV → Option AV
  | [.int .i64 d, .int .i64 p] => some (repV d p)
  | _ => none
theorem rep_run (d p : Int) : ∃ h', lim otab.get I18 (.fn 28) [.int .i64 d, .int .i64 p] .empty = some (repV d p, h') := by
  refine run_of (fn := of28) rfl rfl ?_
  show WK _ _ [] ⟨[.int .i64 d, .int .i64 p, aundef, aundef, aundef, aundef, aundef], .empty⟩ _
  dsimp only [of28]
  have hI : ∀ a h, I18 39 a h = none := fun _ _ => rfl
  simp only [RSd.down]
  rw [bslice2 (v := .int .i64 d) (w := .int .i64 p) rfl rfl rfl rfl]
  simp only [RSd.down, bounded_2e hI, eql_int]
  unfold repV
  rcases bd_cases [d, p] with hb | hb
  · obtain ⟨l1, l2⟩ := bd_two hb
    rcases lg_cases d with ⟨_, d1, d2⟩ | ⟨l, _⟩
    · rcases lg_cases p with ⟨_, p1, p2⟩ | ⟨l, _⟩
      · have cf : ∀ h, lim otab.get I18 (.fn 42) [.int .i64 d] h = some (.bool (decide (fundP d)), h) := fun h => lim_oracle (or_hit (spec := fundS) (if_pos ⟨d1, d2⟩))
        have cp : ∀ h, lim otab.get I18 (.fn 61) [.int .i64 p] h = some (.int .i64 (prE p), h) := fun h => lim_oracle (or_hit (spec := qprimeS) (if_pos ⟨p1, p2⟩))
        by_cases hd : 0 ≤ d
        · simp only [hb, if_true, hd, true_or, RSd.down, eql_int, neq_int, geq_int, decide_true, decide_false, ne_eq, not_false_eq_true, show ((3 : Int) = 0) = False from by simp, Ret_ret, result_3]
        · by_cases hf : fundP d
          · rcases prE_cases p with ⟨q1, q2, q3⟩ | ⟨q1, q2⟩
            · obtain ⟨m, hm⟩ : ∃ m : Nat, d = -(m : Int) := ⟨(-d).toNat, by omega⟩
              obtain ⟨n, hn⟩ : ∃ n : Nat, p = (n : Int) := ⟨p.toNat, by omega⟩
              subst hm; subst hn
              simp only [hb, if_true, hd, hf, RSd.down, eql_int, neq_int, geq_int, decide_true, decide_false, cf, cp, q1, not_bool, Bool.not_true, ne_eq, not_true_eq_false, false_or, if_false, Int.neg_neg, Int.toNat_natCast]
              refine rep_loop (m := m) (p := n) (by omega) (by omega) (by omega) 1000 0 _ _ _ _ rfl (fun a b e z5 z6 => ?_) (fun e z2 z3 z4 z5 z6 => ?_)
              · simp only [RSd.down, Ret_ret, result_3, e]
              · simp only [RSd.down, Ret_ret, result_3, e]
            · simp only [hb, if_true, hd, hf, RSd.down, eql_int, neq_int, geq_int, decide_true, decide_false, cf, cp, q1, not_bool, Bool.not_true, ne_eq, not_false_eq_true, not_true_eq_false, false_or, if_false, show ((7 : Int) = 0) = False from by simp, Ret_ret, result_3]
          · simp only [hb, if_true, hd, hf, RSd.down, eql_int, neq_int, geq_int, decide_true, decide_false, cf, not_bool, Bool.not_false, ne_eq, not_false_eq_true, or_true, show ((3 : Int) = 0) = False from by simp, Ret_ret, result_3]
      · rw [l2] at l; cases l
    · rw [l1] at l; cases l
  · simp only [hb, RSd.down, eql_int, neq_int, decide_true, decide_false, ne_eq, not_false_eq_true, if_false, show ((4 : Int) = 0) = False from by simp, Ret_ret, result_3]
theorem repV_plain (d p : Int) : AV.plain (repV d p) = true := by
  unfold repV
  split
  · split
    · rfl
    · split
      · split <;> rfl
      · rfl
  · rfl
noncomputable def I19 : Oracle := ext I18 28 repS
theorem I19_ok : IOK Go.Proofs.Try.prog I19 := IOK.extL mixed tabOK otabOK I18_ok (g := 28) (fn := af28) rfl fun args av h => by
  unfold repS at h
  split at h
  · rename_i d p
    cases h
    exact ⟨rfl, repV_plain d p, rep_run d p⟩
  · cases h
end Go.AM
