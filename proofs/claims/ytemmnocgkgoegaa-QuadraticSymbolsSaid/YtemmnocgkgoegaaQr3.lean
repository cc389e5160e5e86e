/- Kronecker's symbol: the algorithm and the product over the primes. No condition. -/
import Derived.Test.YtemmnocgkgoegaaQr2
set_option linter.unusedVariables false
namespace Go.AM.QR
/-- the symbol at a prime -/
def kp (d : Int) (p : Nat) : Int := if 2 < p then leg d p else if d % 8 = 1 then 1 else if d % 8 = 5 then -1 else 0
def kron (d : Int) : List Nat → Int
  | [] => 1
  | p :: t => kp d p * kron d t
theorem kron_perm {d : Int} {l l' : List Nat} (h : l.Perm l') : kron d l = kron d l' := by
  induction h with
  | nil => rfl
  | cons x _ ih => show kp d x * _ = kp d x * _; rw [ih]
  | swap x y l => show kp d y * (kp d x * kron d l) = kp d x * (kp d y * kron d l); ac_rfl
  | trans _ _ h1 h2 => rw [h1, h2]
theorem kron_app {d : Int} : ∀ l l' : List Nat, kron d (l ++ l') = kron d l * kron d l'
  | [], l' => (Int.one_mul _).symm
  | x :: t, l' => by show kp d x * kron d (t ++ l') = kp d x * kron d t * kron d l'; rw [kron_app t l', Int.mul_assoc]
theorem kron_odds {d : Int} : ∀ {l : List Nat}, Odds l → kron d l = jac d l
  | [], _ => rfl
  | p :: t, h => by
    show kp d p * kron d t = leg d p * jac d t
    have h3 := h.head.three
    rw [kron_odds h.tail]
    unfold kp; rw [if_pos (by omega)]
theorem kp_tri {d : Int} {p : Nat} (h : Prime p) : Tri (kp d p) := by
  unfold kp
  split
  · rename_i h2
    refine (leg_spec ⟨h, ?_⟩ d).1
    rcases Nat.mod_two_eq_zero_or_one p with e | e
    · rcases h.2 2 (Nat.dvd_of_mod_eq_zero e) with h3 | h3 <;> omega
    · exact e
  · split
    · exact .inr (.inr rfl)
    · split
      · exact .inl rfl
      · exact .inr (.inl rfl)
theorem kron_tri {d : Int} : ∀ {l : List Nat}, (∀ p ∈ l, Prime p) → Tri (kron d l)
  | [], _ => .inr (.inr rfl)
  | p :: t, h => (kp_tri (h p List.mem_cons_self)).mul (kron_tri fun q hq => h q (List.mem_cons_of_mem _ hq))
/-- Jacobi's symbol, computed -/
def jv (a : Int) (n : Nat) : Int := jl ((a % (n : Int)).toNat + 1) (a % (n : Int)).toNat n 1
theorem jv_ok {a : Int} {l : List Nat} (h : Odds l) : jv a (pr l) = jac a l := by
  have h0 : pr l ≠ 0 := by have := pr_odd h; omega
  have e : ((a % (pr l : Int)).toNat : Int) = a % (pr l : Int) := Int.toNat_of_nonneg (Int.emod_nonneg _ (by omega))
  unfold jv
  rw [jl_ok _ _ l 1 h (by omega), Int.one_mul, e]
  refine jac_congr h ?_
  have := dvd_sub_emod a (pr l : Int)
  have h2 := Int.dvd_neg.2 this
  rwa [Int.neg_sub] at h2
def k2 : Nat → Int → Nat → Int → Int
  | 0, _, _, _ => 0
  | f + 1, d, n, o => if n % 2 = 0 then (if d % 8 = 1 then k2 f d (n / 2) o else if d % 8 = 5 then k2 f d (n / 2) (-o) else 0) else o * jv d n
theorem two_mem : ∀ {l : List Nat}, (∀ p ∈ l, Prime p) → pr l % 2 = 0 → 2 ∈ l
  | [], _, h => by have : (1 : Nat) % 2 = 0 := h; omega
  | p :: t, hp, h => by
    have h1 : p * pr t % 2 = 0 := h
    rcases Nat.mod_two_eq_zero_or_one p with e | e
    · rcases (hp p List.mem_cons_self).2 2 (Nat.dvd_of_mod_eq_zero e) with h3 | h3
      · omega
      · subst h3; exact List.mem_cons_self
    · rw [Nat.mul_mod, e, Nat.one_mul, Nat.mod_mod] at h1
      exact List.mem_cons_of_mem _ (two_mem (fun q hq => hp q (List.mem_cons_of_mem _ hq)) h1)
theorem k2_ok {d : Int} : ∀ (f n : Nat) (o : Int) (l : List Nat), (∀ p ∈ l, Prime p) → pr l = n → 1 ≤ n → n ≤ f → k2 f d n o = o * kron d l
  | 0, n, o, l, hp, hn, h1, h2 => by omega
  | f + 1, n, o, l, hp, hn, h1, h2 => by
    unfold k2
    by_cases e : n % 2 = 0
    · rw [if_pos e]
      have hm := two_mem hp (by rw [hn]; exact e)
      have hperm := List.perm_cons_erase hm
      have hpr : 2 * pr (l.erase 2) = n := by rw [← hn, pr_perm hperm]; rfl
      have hp' : ∀ p ∈ l.erase 2, Prime p := fun p h => hp p (List.mem_of_mem_erase h)
      have hk : kron d l = kp d 2 * kron d (l.erase 2) := by rw [kron_perm hperm]; rfl
      have hr := fun o => k2_ok (d := d) f (n / 2) o (l.erase 2) hp' (by omega) (by omega) (by omega)
      rw [hk]
      have hk2 : kp d 2 = if d % 8 = 1 then 1 else if d % 8 = 5 then -1 else 0 := if_neg (by decide)
      rw [hk2]
      by_cases e1 : d % 8 = 1
      · rw [if_pos e1, if_pos e1, hr, Int.one_mul]
      · rw [if_neg e1, if_neg e1]
        by_cases e5 : d % 8 = 5
        · rw [if_pos e5, if_pos e5, hr]
          rw [Int.neg_mul, Int.neg_mul, Int.one_mul, Int.mul_neg]
        · rw [if_neg e5, if_neg e5, Int.zero_mul, Int.mul_zero]
    · rw [if_neg e]
      have ho : Odds l := odds_of hp (by rw [hn]; omega)
      rw [← hn, jv_ok ho, kron_odds ho]
/-- the sign of two negative numbers -/
def sn (d n : Int) : Int := if n < 0 ∧ d < 0 then -1 else 1
/-- Kronecker's symbol, computed -/
def K (d n : Int) : Int := if n = 0 then (if d = 1 then 1 else 0) else k2 n.natAbs d n.natAbs (sn d n)
theorem K_ok {d n : Int} (h0 : n ≠ 0) {l : List Nat} (hp : ∀ p ∈ l, Prime p) (hn : pr l = n.natAbs) : K d n = sn d n * kron d l := by
  unfold K
  rw [if_neg h0]
  exact k2_ok _ _ _ l hp hn (by omega) (Nat.le_refl _)
theorem sn_tri {d n : Int} : Tri (sn d n) := by
  unfold sn; split
  · exact .inl rfl
  · exact .inr (.inr rfl)
theorem K_tri {d n : Int} : Tri (K d n) := by
  by_cases h0 : n = 0
  · unfold K
    rw [if_pos h0]
    split
    · exact .inr (.inr rfl)
    · exact .inr (.inl rfl)
  · obtain ⟨l, h1, h2⟩ := exists_primes n.natAbs (by omega)
    rw [K_ok h0 h1 h2]
    exact sn_tri.mul (kron_tri h1)
theorem sn_mul {d m n : Int} (hm : m ≠ 0) (hn : n ≠ 0) : sn d (m * n) = sn d m * sn d n := by
  unfold sn
  by_cases hd : d < 0
  · by_cases h1 : m < 0 <;> by_cases h2 : n < 0
    · have : ¬ m * n < 0 := by have := Int.mul_pos_of_neg_of_neg h1 h2; omega
      simp [hd, h1, h2, this]
    · have : m * n < 0 := Int.mul_neg_of_neg_of_pos h1 (by omega)
      simp [hd, h1, h2, this]
    · have : m * n < 0 := Int.mul_neg_of_pos_of_neg (by omega) h2
      simp [hd, h1, h2, this]
    · have : ¬ m * n < 0 := by have := Int.mul_pos (show 0 < m by omega) (show 0 < n by omega); omega
      simp [hd, h1, h2, this]
  · simp [hd]
/-- the symbol is multiplicative -/
theorem K_mul {d m n : Int} (hd : d ≠ 1) : K d (m * n) = K d m * K d n := by
  by_cases hm : m = 0
  · subst hm
    rw [Int.zero_mul]
    unfold K; rw [if_pos rfl, if_neg hd, Int.zero_mul]
  · by_cases hn : n = 0
    · subst hn
      rw [Int.mul_zero]
      have : K d 0 = 0 := by unfold K; rw [if_pos rfl, if_neg hd]
      rw [this, Int.mul_zero]
    · obtain ⟨l, h1, h2⟩ := exists_primes m.natAbs (by omega)
      obtain ⟨l', h1', h2'⟩ := exists_primes n.natAbs (by omega)
      have hp : ∀ p ∈ l ++ l', Prime p := fun p h => by
        rcases List.mem_append.1 h with h | h
        · exact h1 p h
        · exact h1' p h
      have hmn : m * n ≠ 0 := by
        intro h; rcases Int.mul_eq_zero.1 h with h | h
        · exact hm h
        · exact hn h
      rw [K_ok hm h1 h2, K_ok hn h1' h2', K_ok hmn hp (by rw [pr_app, h2, h2', Int.natAbs_mul]), kron_app, sn_mul hm hn]
      ac_rfl
end Go.AM.QR
