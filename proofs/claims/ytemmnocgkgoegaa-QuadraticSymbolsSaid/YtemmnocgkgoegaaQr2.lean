/- Quadratic reciprocity: Eisenstein's count, Legendre's and Jacobi's symbols, and the algorithm that computes them. No condition. -/
import Derived.Test.YtemmnocgkgoegaaQr
set_option linter.unusedVariables false
namespace Go.AM.QR
def S (f : Nat → Nat) : Nat → Nat
  | 0 => 0
  | m + 1 => S f m + f (m + 1)
theorem sm_map_L (f : Nat → Nat) : ∀ m, sm ((L m).map f) = S f m
  | 0 => rfl
  | m + 1 => by
    have h : L (m + 1) = L m ++ [1 + m] := List.range'_1_concat
    rw [h, List.map_append, sm_app, sm_map_L f m]
    show S f m + (f (1 + m) + 0) = S f m + f (m + 1)
    rw [Nat.add_comm 1 m]; rfl
theorem S_congr {f g : Nat → Nat} : ∀ m, (∀ k, 1 ≤ k → k ≤ m → f k = g k) → S f m = S g m
  | 0, _ => rfl
  | m + 1, h => by
    show S f m + f (m + 1) = S g m + g (m + 1)
    rw [S_congr m fun k h1 h2 => h k h1 (by omega), h (m + 1) (by omega) (by omega)]
theorem S_add (f g : Nat → Nat) : ∀ m, S (fun k => f k + g k) m = S f m + S g m
  | 0 => rfl
  | m + 1 => by
    show S (fun k => f k + g k) m + (f (m + 1) + g (m + 1)) = S f m + f (m + 1) + (S g m + g (m + 1))
    rw [S_add f g m]; omega
theorem S_const (c : Nat) : ∀ m, S (fun _ => c) m = m * c
  | 0 => (Nat.zero_mul c).symm
  | m + 1 => by show S (fun _ => c) m + c = (m + 1) * c; rw [S_const c m, Nat.add_mul, Nat.one_mul]
theorem S_swap (f : Nat → Nat → Nat) (n : Nat) : ∀ m, S (fun k => S (fun j => f k j) n) m = S (fun j => S (fun k => f k j) m) n
  | 0 => by
    show 0 = S (fun _ => 0) n
    rw [S_const, Nat.mul_zero]
  | m + 1 => by
    show S (fun k => S (fun j => f k j) n) m + S (fun j => f (m + 1) j) n = S (fun j => S (fun k => f k j) m + f (m + 1) j) n
    rw [S_swap f n m, ← S_add]
theorem S_count {p : Nat} (hp : 0 < p) (x : Nat) : ∀ n, S (fun j => if j * p ≤ x then 1 else 0) n = min n (x / p)
  | 0 => (Nat.zero_min _).symm
  | n + 1 => by
    show S (fun j => if j * p ≤ x then 1 else 0) n + (if (n + 1) * p ≤ x then 1 else 0) = _
    rw [S_count hp x n]
    have h := Nat.le_div_iff_mul_le (x := n + 1) (y := x) hp
    by_cases h1 : (n + 1) * p ≤ x
    · rw [if_pos h1]; have := h.2 h1; omega
    · rw [if_neg h1]; have : ¬ n + 1 ≤ x / p := fun h2 => h1 (h.1 h2); omega
theorem div_bound {p q m n k : Nat} (hp : p = 2 * m + 1) (hq : q = 2 * n + 1) (hk : k ≤ m) : q * k / p ≤ n := by
  have h1 : q * k ≤ q * m := Nat.mul_le_mul_left q hk
  have h2 : q * m < p * (n + 1) := by
    rw [hp, hq]
    simp only [Nat.add_mul, Nat.mul_add, Nat.mul_one, Nat.one_mul]
    have e : 2 * n * m = 2 * m * n := by rw [Nat.mul_assoc, Nat.mul_assoc, Nat.mul_comm n m]
    omega
  have := Nat.div_lt_of_lt_mul (Nat.lt_of_le_of_lt h1 h2)
  omega
theorem S_div {p q m n : Nat} (hp : p = 2 * m + 1) (hq : q = 2 * n + 1) : S (fun k => q * k / p) m = S (fun k => S (fun j => if j * p ≤ q * k then 1 else 0) n) m :=
  S_congr m fun k h1 h2 => by
    show q * k / p = _
    rw [S_count (by omega)]
    have := div_bound hp hq h2
    omega
theorem lattice {p q m n : Nat} (hp : p = 2 * m + 1) (hq : q = 2 * n + 1) (hne : ∀ k j, 1 ≤ k → k ≤ m → 1 ≤ j → j ≤ n → j * p ≠ q * k) : S (fun k => q * k / p) m + S (fun j => p * j / q) n = m * n := by
  rw [S_div hp hq, S_div hq hp, ← S_swap (fun k j => if k * q ≤ p * j then 1 else 0) n m, ← S_add, ← S_const n m]
  refine S_congr m fun k h1 h2 => ?_
  show S (fun j => if j * p ≤ q * k then 1 else 0) n + S (fun j => if k * q ≤ p * j then 1 else 0) n = n
  rw [← S_add]
  have : S (fun j => (if j * p ≤ q * k then 1 else 0) + if k * q ≤ p * j then 1 else 0) n = S (fun _ => 1) n := by
    refine S_congr n fun j h3 h4 => ?_
    have h5 := hne k j h1 h2 h3 h4
    have e1 : k * q = q * k := Nat.mul_comm _ _
    have e2 : p * j = j * p := Nat.mul_comm _ _
    show ((if j * p ≤ q * k then 1 else 0) + if k * q ≤ p * j then 1 else 0) = 1
    rw [e1, e2]
    by_cases h6 : j * p ≤ q * k
    · rw [if_pos h6, if_neg (by omega)]
    · rw [if_neg h6, if_pos (by omega)]
  rw [this, S_const, Nat.mul_one]
theorem pow_sub {p a b : Int} (h : p ∣ a - b) : ∀ m : Nat, p ∣ a ^ m - b ^ m
  | 0 => by rw [Int.pow_zero, Int.pow_zero]; exact ⟨0, by omega⟩
  | m + 1 => by rw [Int.pow_succ, Int.pow_succ]; exact dvd_mul_sub (pow_sub h m) h
/-- Legendre's symbol, by Euler -/
def leg (a : Int) (p : Nat) : Int := if a ^ ((p - 1) / 2) % (p : Int) = (p : Int) - 1 then -1 else a ^ ((p - 1) / 2) % (p : Int)
def Tri (v : Int) : Prop := v = -1 ∨ v = 0 ∨ v = 1
theorem Tri.mul {v w : Int} (h1 : Tri v) (h2 : Tri w) : Tri (v * w) := by
  rcases h1 with h | h | h <;> rcases h2 with h' | h' | h' <;> subst h <;> subst h' <;> first | exact .inl rfl | exact .inr (.inl rfl) | exact .inr (.inr rfl)
theorem tri_eq {p : Nat} (h3 : 3 ≤ p) {v w : Int} (h1 : Tri v) (h2 : Tri w) (h : (p : Int) ∣ v - w) : v = w := by
  have h4 : p ∣ (v - w).natAbs := by rw [← Int.natAbs_dvd_natAbs, Int.natAbs_natCast] at h; exact h
  rcases Nat.eq_zero_or_pos (v - w).natAbs with h5 | h5
  · omega
  · have := Nat.le_of_dvd h5 h4
    rcases h1 with h | h | h <;> rcases h2 with h' | h' | h' <;> omega
def OddP (p : Nat) : Prop := Prime p ∧ p % 2 = 1
theorem OddP.three {p : Nat} (h : OddP p) : 3 ≤ p := by have := h.1.1; have := h.2; omega
theorem OddP.half {p : Nat} (h : OddP p) : p = 2 * ((p - 1) / 2) + 1 := by have := h.2; omega
theorem dvd_sub_emod (a : Int) (p : Int) : p ∣ a - a % p := ⟨a / p, by have := Int.mul_ediv_add_emod a p; omega⟩
theorem emod_eq_of_dvd {x v p : Int} (h : p ∣ x - v) : x % p = v % p := Int.emod_eq_emod_iff_emod_sub_eq_zero.2 (Int.emod_eq_zero_of_dvd h)
theorem leg_of {a : Int} {p : Nat} (h : OddP p) {v : Int} (hv : Tri v) (hd : (p : Int) ∣ a ^ ((p - 1) / 2) - v) : leg a p = v := by
  have h3 := h.three
  have e := emod_eq_of_dvd hd
  unfold leg
  rw [e]
  rcases hv with hv | hv | hv <;> subst hv
  · have : (-1 : Int) % (p : Int) = (p : Int) - 1 := by
      rw [← Int.add_emod_right, show (-1 : Int) + (p : Int) = (p : Int) - 1 by omega, Int.emod_eq_of_lt (by omega) (by omega)]
    rw [this, if_pos rfl]
  · rw [Int.zero_emod, if_neg (by omega)]
  · rw [Int.emod_eq_of_lt (by omega) (by omega), if_neg (by omega)]
theorem gauss_int {p : Nat} (h : OddP p) {a : Int} (hd : ¬ (p : Int) ∣ a) : (p : Int) ∣ a ^ ((p - 1) / 2) - sg (mu p ((p - 1) / 2) (a % (p : Int)).toNat) := by
  have h3 := h.three
  have e : ((a % (p : Int)).toNat : Int) = a % (p : Int) := Int.toNat_of_nonneg (Int.emod_nonneg _ (by omega))
  have hn : ¬ p ∣ (a % (p : Int)).toNat := fun hx => hd (by
    have h1 : (p : Int) ∣ a % (p : Int) := by rw [← e]; exact Int.natCast_dvd_natCast.2 hx
    have h2 := Int.dvd_add h1 (dvd_sub_emod a p)
    rwa [show a % (p : Int) + (a - a % (p : Int)) = a by omega] at h2)
  have h1 := gauss h.1 h.half hn
  have h2 := pow_sub (dvd_sub_emod a p) ((p - 1) / 2)
  rw [e] at h1
  have h4 := Int.dvd_add h2 h1
  rwa [show ∀ x y z : Int, x - y + (y - z) = x - z by intro x y z; omega] at h4
theorem leg_spec {p : Nat} (h : OddP p) (a : Int) : Tri (leg a p) ∧ (p : Int) ∣ a ^ ((p - 1) / 2) - leg a p := by
  have h3 := h.three
  by_cases hd : (p : Int) ∣ a
  · have h1 : (p : Int) ∣ a ^ ((p - 1) / 2) - 0 := by
      obtain ⟨k, hk⟩ : ∃ k, (p - 1) / 2 = k + 1 := ⟨(p - 1) / 2 - 1, by omega⟩
      rw [hk, Int.pow_succ, Int.sub_zero]
      exact Int.dvd_mul_of_dvd_right hd
    rw [leg_of h (.inr (.inl rfl)) h1]
    exact ⟨.inr (.inl rfl), h1⟩
  · have h1 := gauss_int h hd
    have ht : Tri (sg (mu p ((p - 1) / 2) (a % (p : Int)).toNat)) := by rcases sg_cases (mu p ((p - 1) / 2) (a % (p : Int)).toNat) with e | e <;> rw [e]; exact .inr (.inr rfl); exact .inl rfl
    rw [leg_of h ht h1]
    exact ⟨ht, h1⟩
theorem leg_mul {p : Nat} (h : OddP p) (a b : Int) : leg (a * b) p = leg a p * leg b p := by
  obtain ⟨h1, h2⟩ := leg_spec h a
  obtain ⟨h3, h4⟩ := leg_spec h b
  refine leg_of h (h1.mul h3) ?_
  rw [Int.mul_pow]
  exact dvd_mul_sub h2 h4
theorem leg_congr {p : Nat} (h : OddP p) {a b : Int} (hd : (p : Int) ∣ a - b) : leg a p = leg b p := by
  obtain ⟨h3, h4⟩ := leg_spec h b
  refine leg_of h h3 ?_
  have h5 := Int.dvd_add (pow_sub hd ((p - 1) / 2)) h4
  rwa [show ∀ x y z : Int, x - y + (y - z) = x - z by intro x y z; omega] at h5
theorem leg_zero {p : Nat} (h : OddP p) {a : Int} (hd : (p : Int) ∣ a) : leg a p = 0 := by
  refine leg_of h (.inr (.inl rfl)) ?_
  have h3 := h.three
  obtain ⟨k, hk⟩ : ∃ k, (p - 1) / 2 = k + 1 := ⟨(p - 1) / 2 - 1, by omega⟩
  rw [hk, Int.pow_succ, Int.sub_zero]
  exact Int.dvd_mul_of_dvd_right hd
theorem leg_ne {p : Nat} (h : OddP p) {a : Int} (hd : ¬ (p : Int) ∣ a) : leg a p = sg (mu p ((p - 1) / 2) (a % (p : Int)).toNat) := by
  refine leg_of h ?_ (gauss_int h hd)
  rcases sg_cases (mu p ((p - 1) / 2) (a % (p : Int)).toNat) with e | e <;> rw [e]
  · exact .inr (.inr rfl)
  · exact .inl rfl
theorem leg_nat {p a : Nat} (h : OddP p) (hd : ¬ p ∣ a) : leg (a : Int) p = sg (mu p ((p - 1) / 2) a) := by
  refine leg_of h ?_ (gauss h.1 h.half hd)
  rcases sg_cases (mu p ((p - 1) / 2) a) with e | e <;> rw [e]
  · exact .inr (.inr rfl)
  · exact .inl rfl
theorem leg_one {p : Nat} (h : OddP p) : leg 1 p = 1 := leg_of h (.inr (.inr rfl)) (by rw [Int.one_pow]; exact ⟨0, by omega⟩)
theorem leg_two {p : Nat} (h : OddP p) : leg 2 p = if p % 8 = 1 ∨ p % 8 = 7 then 1 else -1 := by
  have h3 := h.three
  rw [← mu_two h.1 h.half]
  exact leg_nat (a := 2) h fun hd => by have := Nat.le_of_dvd (by decide) hd; omega
/-- the sign of reciprocity -/
def eps (b n : Nat) : Int := if b % 4 = 3 ∧ n % 4 = 3 then -1 else 1
theorem eps_mul_left {x y n : Nat} (hx : x % 2 = 1) (hy : y % 2 = 1) : eps (x * y) n = eps x n * eps y n := by
  have e : (x * y) % 4 = (x % 4 * (y % 4)) % 4 := Nat.mul_mod _ _ _
  have h1 : x % 4 = 1 ∨ x % 4 = 3 := by omega
  have h2 : y % 4 = 1 ∨ y % 4 = 3 := by omega
  unfold eps
  rw [e]
  by_cases h3 : n % 4 = 3 <;> rcases h1 with h1 | h1 <;> rcases h2 with h2 | h2 <;> simp [h1, h2, h3]
theorem eps_comm (x y : Nat) : eps x y = eps y x := by
  unfold eps
  by_cases h1 : x % 4 = 3 <;> by_cases h2 : y % 4 = 3 <;> simp [h1, h2]
theorem eps_mul_right {x y n : Nat} (hx : x % 2 = 1) (hy : y % 2 = 1) : eps n (x * y) = eps n x * eps n y := by
  rw [eps_comm, eps_mul_left hx hy, eps_comm x n, eps_comm y n]
/-- reciprocity -/
theorem leg_recip {p q : Nat} (hp : OddP p) (hq : OddP q) : leg (q : Int) p = eps q p * leg (p : Int) q := by
  by_cases hpq : p = q
  · subst hpq
    rw [leg_zero hp (Int.dvd_refl _), Int.mul_zero]
  · have hp3 := hp.three
    have hq3 := hq.three
    have n1 : ¬ p ∣ q := fun hd => by rcases hq.1.2 p hd with e | e <;> omega
    have n2 : ¬ q ∣ p := fun hd => by rcases hp.1.2 q hd with e | e <;> omega
    rw [leg_nat hp n1, leg_nat hq n2]
    have ep := hp.half
    have eq := hq.half
    generalize (p - 1) / 2 = m at *
    generalize (q - 1) / 2 = n at *
    have a1 := parity hp.1 ep n1
    have a2 := parity hq.1 eq n2
    rw [sm_map_L] at a1 a2
    have hl := lattice ep eq fun k j h1 h2 h3 h4 e => by
      exact not_dvd hp.1 n1 h1 (by omega) ⟨j, by rw [← e, Nat.mul_comm]⟩
    have e1 : (q + 1) * sm (L m) = 2 * ((n + 1) * sm (L m)) := by rw [eq, ← Nat.mul_assoc]; rfl
    have e2 : (p + 1) * sm (L n) = 2 * ((m + 1) * sm (L n)) := by rw [ep, ← Nat.mul_assoc]; rfl
    have a3 : (mu p m q) % 2 = (m * n + mu q n p) % 2 := by omega
    rw [sg_congr a3, sg_add]
    congr 1
    unfold sg eps
    have hm : (m * n) % 2 = (m % 2 * (n % 2)) % 2 := Nat.mul_mod _ _ _
    rw [hm]
    rcases Nat.mod_two_eq_zero_or_one m with b1 | b1 <;> rcases Nat.mod_two_eq_zero_or_one n with b2 | b2 <;> rw [b1, b2]
    · rw [if_pos (by decide), if_neg (by omega)]
    · rw [if_pos (by decide), if_neg (by omega)]
    · rw [if_pos (by decide), if_neg (by omega)]
    · rw [if_neg (by decide), if_pos (by omega)]
/-- Jacobi's symbol, over a list of primes -/
def jac (a : Int) : List Nat → Int
  | [] => 1
  | p :: t => leg a p * jac a t
def Odds (l : List Nat) : Prop := ∀ p ∈ l, OddP p
theorem Odds.head {p : Nat} {t : List Nat} (h : Odds (p :: t)) : OddP p := h p List.mem_cons_self
theorem Odds.tail {p : Nat} {t : List Nat} (h : Odds (p :: t)) : Odds t := fun q hq => h q (List.mem_cons_of_mem _ hq)
theorem pr_odd : ∀ {l : List Nat}, Odds l → pr l % 2 = 1
  | [], _ => rfl
  | p :: t, h => by
    show p * pr t % 2 = 1
    rw [Nat.mul_mod, h.head.2, pr_odd h.tail]
theorem jac_mul (a b : Int) : ∀ {l : List Nat}, Odds l → jac (a * b) l = jac a l * jac b l
  | [], _ => rfl
  | p :: t, h => by
    show leg (a * b) p * jac (a * b) t = leg a p * jac a t * (leg b p * jac b t)
    rw [leg_mul h.head, jac_mul a b h.tail]; ac_rfl
theorem jac_congr {a b : Int} : ∀ {l : List Nat}, Odds l → (pr l : Int) ∣ a - b → jac a l = jac b l
  | [], _, _ => rfl
  | p :: t, h, hd => by
    have hd' : ((p : Int) * (pr t : Int)) ∣ a - b := by rw [← Int.natCast_mul]; exact hd
    show leg a p * jac a t = leg b p * jac b t
    rw [leg_congr h.head (Int.dvd_trans (Int.dvd_mul_right _ _) hd'), jac_congr h.tail (Int.dvd_trans (Int.dvd_mul_left _ _) hd')]
theorem jac_zero {a : Int} : ∀ {l : List Nat}, Odds l → (∃ p ∈ l, (p : Int) ∣ a) → jac a l = 0
  | [], _, ⟨_, h, _⟩ => nomatch h
  | p :: t, h, ⟨q, hq, hd⟩ => by
    show leg a p * jac a t = 0
    rcases List.mem_cons.1 hq with e | e
    · subst e; rw [leg_zero h.head hd, Int.zero_mul]
    · rw [jac_zero h.tail ⟨q, e, hd⟩, Int.mul_zero]
theorem jac_one : ∀ {l : List Nat}, Odds l → jac 1 l = 1
  | [], _ => rfl
  | p :: t, h => by show leg 1 p * jac 1 t = 1; rw [leg_one h.head, jac_one h.tail]; rfl
theorem jac_two : ∀ {l : List Nat}, Odds l → jac 2 l = if pr l % 8 = 1 ∨ pr l % 8 = 7 then 1 else -1
  | [], _ => rfl
  | p :: t, h => by
    show leg 2 p * jac 2 t = if p * pr t % 8 = 1 ∨ p * pr t % 8 = 7 then 1 else -1
    rw [leg_two h.head, jac_two h.tail]
    have e : (p * pr t) % 8 = (p % 8 * (pr t % 8)) % 8 := Nat.mul_mod _ _ _
    rw [e]
    have o1 := h.head.2
    have o2 := pr_odd h.tail
    have h1 : p % 8 = 1 ∨ p % 8 = 3 ∨ p % 8 = 5 ∨ p % 8 = 7 := by omega
    have h2 : pr t % 8 = 1 ∨ pr t % 8 = 3 ∨ pr t % 8 = 5 ∨ pr t % 8 = 7 := by omega
    rcases h1 with h1 | h1 | h1 | h1 <;> rcases h2 with h2 | h2 | h2 | h2 <;> rw [h1, h2] <;> rfl
theorem leg_jac {p : Nat} (hp : OddP p) : ∀ {l : List Nat}, Odds l → leg (pr l : Int) p = eps (pr l) p * jac p l
  | [], _ => by
    show leg ((1 : Nat) : Int) p = eps 1 p * 1
    rw [show ((1 : Nat) : Int) = 1 from rfl, leg_one hp]; rfl
  | q :: t, h => by
    show leg ((q * pr t : Nat) : Int) p = eps (q * pr t) p * (leg p q * jac p t)
    rw [Int.natCast_mul, leg_mul hp, leg_recip hp h.head, leg_jac hp h.tail, eps_mul_left h.head.2 (pr_odd h.tail)]; ac_rfl
theorem jac_recip {l' : List Nat} (h' : Odds l') : ∀ {l : List Nat}, Odds l → jac (pr l' : Int) l = eps (pr l') (pr l) * jac (pr l : Int) l'
  | [], _ => by
    show 1 = eps (pr l') 1 * jac ((1 : Nat) : Int) l'
    have e : eps (pr l') 1 = 1 := by unfold eps; rw [if_neg (by omega)]
    rw [show ((1 : Nat) : Int) = 1 from rfl, jac_one h', e]; rfl
  | p :: t, h => by
    show leg (pr l' : Int) p * jac (pr l' : Int) t = eps (pr l') (p * pr t) * jac ((p * pr t : Nat) : Int) l'
    rw [Int.natCast_mul, jac_mul _ _ h', leg_jac h.head h', jac_recip h' h.tail, eps_mul_right h.head.2 (pr_odd h.tail)]; ac_rfl
theorem pr_app : ∀ l l' : List Nat, pr (l ++ l') = pr l * pr l'
  | [], l' => (Nat.one_mul _).symm
  | x :: t, l' => by show x * pr (t ++ l') = x * pr t * pr l'; rw [pr_app t l', Nat.mul_assoc]
theorem mem_dvd : ∀ {l : List Nat} {p : Nat}, p ∈ l → p ∣ pr l
  | x :: t, p, h => by
    rcases List.mem_cons.1 h with e | e
    · subst e; exact Nat.dvd_mul_right _ _
    · exact Nat.dvd_trans (mem_dvd e) (Nat.dvd_mul_left _ _)
/-- every number is a product of primes -/
theorem exists_primes (n : Nat) : 1 ≤ n → ∃ l : List Nat, (∀ p ∈ l, Prime p) ∧ pr l = n := by
  induction n using Nat.strongRecOn with
  | ind n ih =>
    intro h1
    by_cases hn : n = 1
    · exact ⟨[], (fun p (h : p ∈ []) => nomatch h), hn.symm⟩
    · by_cases hp : Prime n
      · exact ⟨[n], fun p h => by rw [List.mem_singleton.1 h]; exact hp, Nat.mul_one n⟩
      · have : ¬ ∀ m, m ∣ n → m = 1 ∨ m = n := fun h => hp ⟨by omega, h⟩
        obtain ⟨m, hm⟩ := Classical.not_forall.1 this
        have hd : m ∣ n := Classical.byContradiction fun h => hm fun h' => absurd h' h
        have hne : m ≠ 1 ∧ m ≠ n := ⟨fun e => hm fun _ => .inl e, fun e => hm fun _ => .inr e⟩
        obtain ⟨c, rfl⟩ := hd
        have m0 : m ≠ 0 := fun e => by subst e; omega
        have c0 : c ≠ 0 := fun e => by subst e; omega
        have c1 : c ≠ 1 := fun e => by subst e; omega
        have l1 : m < m * c := by
          have : m * 2 ≤ m * c := Nat.mul_le_mul_left m (by omega)
          omega
        have l2 : c < m * c := by
          have : 2 * c ≤ m * c := Nat.mul_le_mul_right c (by omega)
          omega
        obtain ⟨t1, a1, a2⟩ := ih m l1 (by omega)
        obtain ⟨t2, b1, b2⟩ := ih c l2 (by omega)
        refine ⟨t1 ++ t2, fun p h => ?_, by rw [pr_app, a2, b2]⟩
        rcases List.mem_append.1 h with h | h
        · exact a1 p h
        · exact b1 p h
theorem odds_of {l : List Nat} (h : ∀ p ∈ l, Prime p) (ho : pr l % 2 = 1) : Odds l := fun p hp => ⟨h p hp, by
  have h2 := Nat.mod_mod_of_dvd (pr l) (show 1 ∣ 2 by decide)
  rcases Nat.mod_two_eq_zero_or_one p with e | e
  · have h3 : 2 ∣ pr l := Nat.dvd_trans (Nat.dvd_of_mod_eq_zero e) (mem_dvd hp)
    have := Nat.mod_eq_zero_of_dvd h3; omega
  · exact e⟩
theorem exists_odds {n : Nat} (h : n % 2 = 1) : ∃ l : List Nat, Odds l ∧ pr l = n := by
  obtain ⟨l, h1, h2⟩ := exists_primes n (by omega)
  exact ⟨l, odds_of h1 (by rw [h2]; exact h), h2⟩
/-- the algorithm: twos are taken off -/
def tw : Nat → Nat → Nat → Int → Nat × Int
  | 0, a, _, o => (a, o)
  | f + 1, a, n, o => if a % 2 = 0 then tw f (a / 2) n (if n % 8 = 3 ∨ n % 8 = 5 then -o else o) else (a, o)
def jl : Nat → Nat → Nat → Int → Int
  | 0, _, _, _ => 0
  | f + 1, a, n, o => if a = 0 then (if 1 < n then 0 else o) else jl f (n % (tw a a n o).1) (tw a a n o).1 (if (tw a a n o).1 % 4 = 3 ∧ n % 4 = 3 then -(tw a a n o).2 else (tw a a n o).2)
theorem tw_ok {l : List Nat} (h : Odds l) : ∀ (f a : Nat) (o : Int), 1 ≤ a → a ≤ f → (tw f a (pr l) o).1 % 2 = 1 ∧ (tw f a (pr l) o).1 ≤ a ∧ o * jac a l = (tw f a (pr l) o).2 * jac (tw f a (pr l) o).1 l
  | 0, a, o, h1, h2 => by omega
  | f + 1, a, o, h1, h2 => by
    unfold tw
    by_cases e : a % 2 = 0
    · rw [if_pos e]
      obtain ⟨i1, i2, i3⟩ := tw_ok h f (a / 2) (if pr l % 8 = 3 ∨ pr l % 8 = 5 then -o else o) (by omega) (by omega)
      refine ⟨i1, by omega, ?_⟩
      rw [← i3]
      have ea : (a : Int) = 2 * ((a / 2 : Nat) : Int) := by omega
      rw [ea, jac_mul _ _ h, jac_two h]
      have ho := pr_odd h
      by_cases h8 : pr l % 8 = 3 ∨ pr l % 8 = 5
      · rw [if_pos h8, if_neg (by omega), ← Int.mul_assoc]; congr 1; omega
      · rw [if_neg h8, if_pos (by omega), Int.one_mul]
    · rw [if_neg e]; exact ⟨by show a % 2 = 1; omega, Nat.le_refl _, rfl⟩
theorem jl_ok : ∀ (f a : Nat) (l : List Nat) (o : Int), Odds l → a < f → jl f a (pr l) o = o * jac a l
  | 0, a, l, o, h, hf => by omega
  | f + 1, a, l, o, h, hf => by
    unfold jl
    by_cases e : a = 0
    · rw [if_pos e]
      subst e
      cases l with
      | nil => rw [if_neg (by decide)]; exact (Int.mul_one o).symm
      | cons p t =>
        have hp := h.head.three
        have h1 : 1 ≤ pr t := by have := pr_odd h.tail; omega
        have : 1 < pr (p :: t) := by
          show 1 < p * pr t
          have : 3 * 1 ≤ p * pr t := Nat.mul_le_mul hp h1
          omega
        rw [if_pos this, jac_zero h ⟨p, List.mem_cons_self, ⟨0, by simp⟩⟩, Int.mul_zero]
    · rw [if_neg e]
      obtain ⟨i1, i2, i3⟩ := tw_ok h a a o (by omega) (Nat.le_refl _)
      rw [i3]
      generalize (tw a a (pr l) o).2 = w at *
      generalize (tw a a (pr l) o).1 = b at *
      obtain ⟨l', h', hb⟩ := exists_odds i1
      subst hb
      have hlt : pr l % pr l' < pr l' := Nat.mod_lt _ (by omega)
      rw [jl_ok f (pr l % pr l') l' _ h' (by omega), jac_recip h' h]
      have hc : jac ((pr l % pr l' : Nat) : Int) l' = jac (pr l : Int) l' := jac_congr h' ⟨-((pr l / pr l' : Nat) : Int), by
        have e1 : ((pr l : Nat) : Int) = (pr l' : Int) * ((pr l / pr l' : Nat) : Int) + ((pr l % pr l' : Nat) : Int) := by
          have := (Nat.div_add_mod (pr l) (pr l')).symm
          exact_mod_cast this
        rw [Int.mul_neg]; omega⟩
      rw [hc, ← Int.mul_assoc]
      congr 1
      unfold eps
      split
      · omega
      · omega
end Go.AM.QR
