/- Quadratic reciprocity, the symbols of Legendre, Jacobi and Kronecker. No condition. -/
import Derived.Test.YtemmnocgkgoegaaAm0
set_option linter.unusedVariables false
namespace Go.AM.QR
def Prime (p : Nat) : Prop := 2 ≤ p ∧ ∀ m, m ∣ p → m = 1 ∨ m = p
theorem Prime.coprime {p a : Nat} (hp : Prime p) (h : ¬ p ∣ a) : Nat.Coprime p a := by
  rcases hp.2 _ (Nat.gcd_dvd_left p a) with e | e
  · exact e
  · exact absurd (e ▸ Nat.gcd_dvd_right p a) h
theorem Prime.dvd_mul {p a b : Nat} (hp : Prime p) (h : p ∣ a * b) : p ∣ a ∨ p ∣ b := by
  by_cases ha : p ∣ a
  · exact .inl ha
  · exact .inr ((hp.coprime ha).dvd_of_dvd_mul_left h)
def pr : List Nat → Nat
  | [] => 1
  | x :: t => x * pr t
def sm : List Nat → Nat
  | [] => 0
  | x :: t => x + sm t
theorem pr_perm {l l' : List Nat} (h : l.Perm l') : pr l = pr l' := by
  induction h with
  | nil => rfl
  | cons x _ ih => show x * _ = x * _; rw [ih]
  | swap x y l => show y * (x * pr l) = x * (y * pr l); rw [← Nat.mul_assoc, Nat.mul_comm y x, Nat.mul_assoc]
  | trans _ _ h1 h2 => rw [h1, h2]
theorem sm_perm {l l' : List Nat} (h : l.Perm l') : sm l = sm l' := by
  induction h with
  | nil => rfl
  | cons x _ ih => show x + _ = x + _; rw [ih]
  | swap x y l => show y + (x + sm l) = x + (y + sm l); omega
  | trans _ _ h1 h2 => rw [h1, h2]
theorem sm_app : ∀ l l' : List Nat, sm (l ++ l') = sm l + sm l'
  | [], l' => by show sm l' = 0 + sm l'; omega
  | x :: t, l' => by show x + sm (t ++ l') = x + sm t + sm l'; rw [sm_app t l']; omega
theorem perm_of {l : List Nat} : ∀ {l' : List Nat}, l.Nodup → l'.Nodup → (∀ x ∈ l, x ∈ l') → l.length = l'.length → l.Perm l' := by
  induction l with
  | nil => intro l' _ _ _ h; cases l' with | nil => exact .nil | cons _ _ => simp at h
  | cons x t ih =>
    intro l' h1 h2 h3 h4
    have hx : x ∈ l' := h3 x (List.mem_cons_self)
    have e := List.perm_cons_erase hx
    refine .trans (.cons x (ih (List.nodup_cons.1 h1).2 (h2.erase x) (fun y hy => ?_) ?_)) e.symm
    · have hne : y ≠ x := fun e => (List.nodup_cons.1 h1).1 (e ▸ hy)
      exact (List.mem_erase_of_ne hne).2 (h3 y (List.mem_cons_of_mem _ hy))
    · have := e.length_eq
      simp only [List.length_cons] at this h4
      omega
/-- the sign of a parity -/
def sg (n : Nat) : Int := if n % 2 = 0 then 1 else -1
theorem sg_add (x y : Nat) : sg (x + y) = sg x * sg y := by
  unfold sg
  rcases Nat.mod_two_eq_zero_or_one x with h1 | h1 <;> rcases Nat.mod_two_eq_zero_or_one y with h2 | h2 <;> simp [Nat.add_mod, h1, h2]
theorem sg_congr {x y : Nat} (h : x % 2 = y % 2) : sg x = sg y := by unfold sg; rw [h]
theorem sg_cases (x : Nat) : sg x = 1 ∨ sg x = -1 := by unfold sg; split <;> simp
theorem sg_sq (x : Nat) : sg x * sg x = 1 := by rcases sg_cases x with h | h <;> rw [h] <;> rfl
theorem dvd_mul_sub {p x y u v : Int} (h1 : p ∣ x - y) (h2 : p ∣ u - v) : p ∣ x * u - y * v := by
  have e : x * u - y * v = x * (u - v) + (x - y) * v := by rw [Int.mul_sub, Int.sub_mul]; omega
  rw [e]; exact Int.dvd_add (Int.dvd_mul_of_dvd_right h2) (Int.dvd_mul_of_dvd_left h1)
section gauss
variable {p m a : Nat}
def fs (p m a k : Nat) : Nat := if a * k % p ≤ m then a * k % p else p - a * k % p
def fl (p m a k : Nat) : Nat := if a * k % p ≤ m then 0 else 1
def L (m : Nat) : List Nat := List.range' 1 m
theorem mem_L {k : Nat} : k ∈ L m ↔ 1 ≤ k ∧ k ≤ m := by unfold L; rw [List.mem_range'_1]; omega
theorem len_L : (L m).length = m := List.length_range'
theorem nodup_L : (L m).Nodup := List.nodup_range'
theorem not_dvd (hp : Prime p) (h : ¬ p ∣ a) {k : Nat} (h1 : 1 ≤ k) (h2 : k < p) : ¬ p ∣ a * k := fun hd => by
  rcases hp.dvd_mul hd with h3 | h3
  · exact h h3
  · have := Nat.le_of_dvd h1 h3; omega
theorem fs_mem (hp : Prime p) (e : p = 2 * m + 1) (h : ¬ p ∣ a) {k : Nat} (hk : k ∈ L m) : fs p m a k ∈ L m := by
  obtain ⟨k1, k2⟩ := mem_L.1 hk
  have h1 : a * k % p ≠ 0 := fun hz => not_dvd hp h k1 (by omega) (Nat.dvd_of_mod_eq_zero hz)
  have h2 : a * k % p < p := Nat.mod_lt _ (by omega)
  rw [mem_L]
  unfold fs; split <;> omega
theorem inj1 (hp : Prime p) (h : ¬ p ∣ a) {k j : Nat} (hk : k < p) (hkj : k ≤ j) (hj : j < p) (e : a * k % p = a * j % p) : k = j := by
  have h1 : (a * j - a * k) % p = 0 := Nat.sub_mod_eq_zero_of_mod_eq e.symm
  rw [← Nat.mul_sub] at h1
  rcases Nat.eq_zero_or_pos (j - k) with h2 | h2
  · omega
  · exact absurd (Nat.dvd_of_mod_eq_zero h1) (not_dvd hp h h2 (by omega))
theorem inj2 (hp : Prime p) (h : ¬ p ∣ a) {k j : Nat} (hk : 1 ≤ k) (hs : k + j < p) (e : a * k % p + a * j % p = p) : False := by
  have h1 : (a * k + a * j) % p = 0 := by rw [Nat.add_mod, e, Nat.mod_self]
  rw [← Nat.mul_add] at h1
  exact not_dvd hp h (by omega) hs (Nat.dvd_of_mod_eq_zero h1)
theorem fs_inj (hp : Prime p) (e : p = 2 * m + 1) (h : ¬ p ∣ a) {k j : Nat} (hk : k ∈ L m) (hj : j ∈ L m) (he : fs p m a k = fs p m a j) : k = j := by
  obtain ⟨k1, k2⟩ := mem_L.1 hk
  obtain ⟨j1, j2⟩ := mem_L.1 hj
  have hx : a * k % p < p := Nat.mod_lt _ (by omega)
  have hy : a * j % p < p := Nat.mod_lt _ (by omega)
  have same : a * k % p = a * j % p → k = j := fun he => by
    rcases Nat.le_total k j with h3 | h3
    · exact inj1 hp h (by omega) h3 (by omega) he
    · exact (inj1 hp h (by omega) h3 (by omega) he.symm).symm
  unfold fs at he
  split at he <;> split at he
  · exact same he
  · exact (inj2 hp h k1 (by omega) (show a * k % p + a * j % p = p by omega)).elim
  · exact (inj2 hp h k1 (by omega) (show a * k % p + a * j % p = p by omega)).elim
  · exact same (by omega)
theorem fs_perm (hp : Prime p) (e : p = 2 * m + 1) (h : ¬ p ∣ a) : ((L m).map (fs p m a)).Perm (L m) := by
  refine perm_of ?_ nodup_L ?_ ?_
  · unfold List.Nodup
    rw [List.pairwise_map]
    exact (nodup_L (m := m)).imp_of_mem fun hx hy hne he => hne (fs_inj hp e h hx hy he)
  · intro x hx
    obtain ⟨k, hk, rfl⟩ := List.mem_map.1 hx
    exact fs_mem hp e h hk
  · rw [List.length_map]
theorem one_step (e : p = 2 * m + 1) (k : Nat) : (p : Int) ∣ (a : Int) * k - sg (fl p m a k) * fs p m a k := by
  have h1 : a * k % p < p := Nat.mod_lt _ (by omega)
  have h2 : a * k = p * (a * k / p) + a * k % p := (Nat.div_add_mod _ _).symm
  have h3 : (a : Int) * k = (p : Int) * ((a * k / p : Nat) : Int) + ((a * k % p : Nat) : Int) := by exact_mod_cast h2
  unfold fl fs
  split
  · rw [show sg 0 = 1 from rfl, Int.one_mul, h3]
    exact ⟨((a * k / p : Nat) : Int), by omega⟩
  · rw [show sg 1 = -1 from rfl, h3]
    refine ⟨((a * k / p : Nat) : Int) + 1, ?_⟩
    rw [Int.mul_add]
    omega
theorem gauss_list (e : p = 2 * m + 1) : ∀ l : List Nat, (p : Int) ∣ (a : Int) ^ l.length * (pr l : Int) - sg (sm (l.map (fl p m a))) * (pr (l.map (fs p m a)) : Int)
  | [] => by
    show (p : Int) ∣ (a : Int) ^ 0 * ((1 : Nat) : Int) - sg 0 * ((1 : Nat) : Int)
    rw [Int.pow_zero]; exact ⟨0, by rw [Int.mul_zero]; rfl⟩
  | k :: t => by
    have h := dvd_mul_sub (one_step (a := a) e k) (gauss_list e t)
    show (p : Int) ∣ (a : Int) ^ (t.length + 1) * ((k * pr t : Nat) : Int) - sg (fl p m a k + sm (t.map (fl p m a))) * ((fs p m a k * pr (t.map (fs p m a)) : Nat) : Int)
    have e1 : (a : Int) ^ (t.length + 1) * ((k * pr t : Nat) : Int) = (a : Int) * k * ((a : Int) ^ t.length * (pr t : Int)) := by
      rw [Int.pow_succ, Int.natCast_mul]; ac_rfl
    have e2 : sg (fl p m a k + sm (t.map (fl p m a))) * ((fs p m a k * pr (t.map (fs p m a)) : Nat) : Int) = sg (fl p m a k) * fs p m a k * (sg (sm (t.map (fl p m a))) * (pr (t.map (fs p m a)) : Int)) := by
      rw [sg_add, Int.natCast_mul]; ac_rfl
    rw [e1, e2]; exact h
theorem not_dvd_pr (hp : Prime p) : ∀ l : List Nat, (∀ k ∈ l, 1 ≤ k ∧ k < p) → ¬ p ∣ pr l
  | [], _, h => by
    have h1 : p ≤ 1 := Nat.le_of_dvd (by decide) h
    have := hp.1
    omega
  | k :: t, hl, h => by
    rcases hp.dvd_mul h with h1 | h1
    · obtain ⟨h2, h3⟩ := hl k List.mem_cons_self
      have := Nat.le_of_dvd h2 h1; omega
    · exact not_dvd_pr hp t (fun k hk => hl k (List.mem_cons_of_mem _ hk)) h1
theorem int_dvd_mul (hp : Prime p) {x y : Int} (h : (p : Int) ∣ x * y) : (p : Int) ∣ x ∨ (p : Int) ∣ y := by
  rw [← Int.natAbs_dvd_natAbs, Int.natAbs_mul, Int.natAbs_natCast] at h
  rcases hp.dvd_mul h with h1 | h1
  · exact .inl (Int.natAbs_dvd_natAbs.1 (by rw [Int.natAbs_natCast]; exact h1))
  · exact .inr (Int.natAbs_dvd_natAbs.1 (by rw [Int.natAbs_natCast]; exact h1))
/-- the number of the residues above the half -/
def mu (p m a : Nat) : Nat := sm ((L m).map (fl p m a))
/-- Gauss's lemma -/
theorem gauss (hp : Prime p) (e : p = 2 * m + 1) (h : ¬ p ∣ a) : (p : Int) ∣ (a : Int) ^ m - sg (mu p m a) := by
  have h1 := gauss_list (a := a) e (L m)
  rw [pr_perm (fs_perm hp e h), len_L, ← Int.sub_mul] at h1
  rcases int_dvd_mul hp h1 with h2 | h2
  · exact h2
  · exact absurd (Int.natCast_dvd_natCast.1 h2) (not_dvd_pr hp _ fun k hk => by have := mem_L.1 hk; omega)
theorem par_list (e : p = 2 * m + 1) : ∀ l : List Nat, ((a + 1) * sm l + sm l + sm (l.map (fun k => a * k / p)) + sm (l.map (fs p m a)) + sm (l.map (fl p m a))) % 2 = 0
  | [] => by show ((a + 1) * 0 + 0 + 0 + 0 + 0) % 2 = 0; omega
  | k :: t => by
    have ih := par_list e t
    show ((a + 1) * (k + sm t) + (k + sm t) + (a * k / p + sm (t.map (fun k => a * k / p))) + (fs p m a k + sm (t.map (fs p m a))) + (fl p m a k + sm (t.map (fl p m a)))) % 2 = 0
    have h1 : a * k % p < p := Nat.mod_lt _ (by omega)
    have h2 : a * k = p * (a * k / p) + a * k % p := (Nat.div_add_mod _ _).symm
    have h3 : p * (a * k / p) = 2 * (m * (a * k / p)) + a * k / p := by
      rw [show p * (a * k / p) = (2 * m + 1) * (a * k / p) by rw [← e], Nat.add_mul, Nat.one_mul, Nat.mul_assoc]
    have h4 : (a + 1) * (k + sm t) = a * k + k + (a + 1) * sm t := by rw [Nat.mul_add, Nat.add_mul, Nat.one_mul]
    have h5 : (fs p m a k + fl p m a k + a * k % p) % 2 = 0 := by
      unfold fs fl; split <;> omega
    rw [h4]
    omega
theorem parity (hp : Prime p) (e : p = 2 * m + 1) (h : ¬ p ∣ a) : ((a + 1) * sm (L m) + sm ((L m).map (fun k => a * k / p)) + mu p m a) % 2 = 0 := by
  have h1 := par_list (a := a) e (L m)
  rw [sm_perm (fs_perm hp e h)] at h1
  unfold mu; omega
theorem sm_L : ∀ m : Nat, 2 * sm (L m) = m * (m + 1)
  | 0 => rfl
  | m + 1 => by
    have h : L (m + 1) = L m ++ [1 + m] := List.range'_1_concat
    have ih := sm_L m
    rw [h, sm_app]
    show 2 * (sm (L m) + (1 + m + 0)) = (m + 1) * (m + 1 + 1)
    have e1 : (m + 1) * (m + 1 + 1) = m * (m + 1) + 2 * (m + 1) := by rw [← Nat.add_mul, Nat.mul_comm, Nat.add_comm m 2, show 2 + m = m + 1 + 1 by omega]
    rw [e1]; omega
/-- 2 -/
theorem mu_two (hp : Prime p) (e : p = 2 * m + 1) : sg (mu p m 2) = if p % 8 = 1 ∨ p % 8 = 7 then 1 else -1 := by
  have hm : 1 ≤ m := by have := hp.1; omega
  have h2 : ¬ p ∣ 2 := fun hd => by have := Nat.le_of_dvd (by decide) hd; omega
  have h := parity hp e h2
  have hq : ∀ l : List Nat, (∀ k ∈ l, k ≤ m) → sm (l.map (fun k => 2 * k / p)) = 0 := by
    intro l
    induction l with
    | nil => intro _; rfl
    | cons k t ih =>
      intro hl
      show 2 * k / p + sm (t.map (fun k => 2 * k / p)) = 0
      have hk := hl k List.mem_cons_self
      rw [ih fun j hj => hl j (List.mem_cons_of_mem _ hj), Nat.div_eq_of_lt (by omega)]
  rw [hq _ fun k hk => (mem_L.1 hk).2] at h
  have hs := sm_L m
  have h8 : m % 4 = 0 ∨ m % 4 = 1 ∨ m % 4 = 2 ∨ m % 4 = 3 := by omega
  have hs2 : sm (L m) % 2 = if m % 4 = 0 ∨ m % 4 = 3 then 0 else 1 := by
    obtain ⟨q, hq⟩ : ∃ q, m = 4 * q + m % 4 := ⟨m / 4, by omega⟩
    have e3 : ∀ r, m = 4 * q + r → m * (m + 1) = 4 * (4 * (q * q) + 2 * (q * r) + q) + r * (r + 1) := by
      intro r hr
      rw [hr]
      simp only [Nat.mul_add, Nat.add_mul, Nat.mul_one]
      have a1 : 4 * q * (4 * q) = 4 * (4 * (q * q)) := by rw [Nat.mul_assoc, Nat.mul_left_comm q 4 q]
      have a2 : 4 * q * r = 4 * (q * r) := Nat.mul_assoc _ _ _
      have a3 : r * (4 * q) = 4 * (q * r) := by rw [Nat.mul_left_comm, Nat.mul_comm r q]
      omega
    rcases h8 with h8 | h8 | h8 | h8 <;> rw [h8] at hq <;> have e4 := e3 _ hq <;> rw [e4] at hs <;> rw [h8] <;> simp <;> omega
  have hp8 : p % 8 = (2 * (m % 4) + 1) % 8 := by omega
  rcases h8 with h8 | h8 | h8 | h8 <;> rw [h8] at hp8 hs2 <;> simp at hs2 hp8 <;> rw [hp8] <;> simp <;> unfold sg <;> split <;> first | rfl | omega
end gauss
end Go.AM.QR
namespace Go.AM.QR
def S (f : Nat → Nat) : Nat → Nat
  | 0 => 0
  | m + 1 => S f m + f (m + 1)
theorem sm_map_L (f : Nat → Nat) : ∀ m, sm ((L m).map f) = S f m
  | 0 => rfl
  | m + 1 => by
    have h : L (m + 1) = L m ++ [1 + m] := List.range'_1_concat
    rw [h, List.map_append, sm_app, sm_map_L f m]
    show S f m + (f (1 + m) + 0) = S f m + f (m + 1)
    rw [Nat.add_comm 1 m]; rfl
theorem S_congr {f g : Nat → Nat} : ∀ m, (∀ k, 1 ≤ k → k ≤ m → f k = g k) → S f m = S g m
  | 0, _ => rfl
  | m + 1, h => by
    show S f m + f (m + 1) = S g m + g (m + 1)
    rw [S_congr m fun k h1 h2 => h k h1 (by omega), h (m + 1) (by omega) (by omega)]
theorem S_add (f g : Nat → Nat) : ∀ m, S (fun k => f k + g k) m = S f m + S g m
  | 0 => rfl
  | m + 1 => by
    show S (fun k => f k + g k) m + (f (m + 1) + g (m + 1)) = S f m + f (m + 1) + (S g m + g (m + 1))
    rw [S_add f g m]; omega
theorem S_const (c : Nat) : ∀ m, S (fun _ => c) m = m * c
  | 0 => (Nat.zero_mul c).symm
  | m + 1 => by show S (fun _ => c) m + c = (m + 1) * c; rw [S_const c m, Nat.add_mul, Nat.one_mul]
theorem S_swap (f : Nat → Nat → Nat) (n : Nat) : ∀ m, S (fun k => S (fun j => f k j) n) m = S (fun j => S (fun k => f k j) m) n
  | 0 => by
    show 0 = S (fun _ => 0) n
    rw [S_const, Nat.mul_zero]
  | m + 1 => by
    show S (fun k => S (fun j => f k j) n) m + S (fun j => f (m + 1) j) n = S (fun j => S (fun k => f k j) m + f (m + 1) j) n
    rw [S_swap f n m, ← S_add]
theorem S_count {p : Nat} (hp : 0 < p) (x : Nat) : ∀ n, S (fun j => if j * p ≤ x then 1 else 0) n = min n (x / p)
  | 0 => (Nat.zero_min _).symm
  | n + 1 => by
    show S (fun j => if j * p ≤ x then 1 else 0) n + (if (n + 1) * p ≤ x then 1 else 0) = _
    rw [S_count hp x n]
    have h := Nat.le_div_iff_mul_le (x := n + 1) (y := x) hp
    by_cases h1 : (n + 1) * p ≤ x
    · rw [if_pos h1]; have := h.2 h1; omega
    · rw [if_neg h1]; have : ¬ n + 1 ≤ x / p := fun h2 => h1 (h.1 h2); omega
theorem div_bound {p q m n k : Nat} (hp : p = 2 * m + 1) (hq : q = 2 * n + 1) (hk : k ≤ m) : q * k / p ≤ n := by
  have h1 : q * k ≤ q * m := Nat.mul_le_mul_left q hk
  have h2 : q * m < p * (n + 1) := by
    rw [hp, hq]
    simp only [Nat.add_mul, Nat.mul_add, Nat.mul_one, Nat.one_mul]
    have e : 2 * n * m = 2 * m * n := by rw [Nat.mul_assoc, Nat.mul_assoc, Nat.mul_comm n m]
    omega
  have := Nat.div_lt_of_lt_mul (Nat.lt_of_le_of_lt h1 h2)
  omega
theorem S_div {p q m n : Nat} (hp : p = 2 * m + 1) (hq : q = 2 * n + 1) : S (fun k => q * k / p) m = S (fun k => S (fun j => if j * p ≤ q * k then 1 else 0) n) m :=
  S_congr m fun k h1 h2 => by
    show q * k / p = _
    rw [S_count (by omega)]
    have := div_bound hp hq h2
    omega
theorem lattice {p q m n : Nat} (hp : p = 2 * m + 1) (hq : q = 2 * n + 1) (hne : ∀ k j, 1 ≤ k → k ≤ m → 1 ≤ j → j ≤ n → j * p ≠ q * k) : S (fun k => q * k / p) m + S (fun j => p * j / q) n = m * n := by
  rw [S_div hp hq, S_div hq hp, ← S_swap (fun k j => if k * q ≤ p * j then 1 else 0) n m, ← S_add, ← S_const n m]
  refine S_congr m fun k h1 h2 => ?_
  show S (fun j => if j * p ≤ q * k then 1 else 0) n + S (fun j => if k * q ≤ p * j then 1 else 0) n = n
  rw [← S_add]
  have : S (fun j => (if j * p ≤ q * k then 1 else 0) + if k * q ≤ p * j then 1 else 0) n = S (fun _ => 1) n := by
    refine S_congr n fun j h3 h4 => ?_
    have h5 := hne k j h1 h2 h3 h4
    have e1 : k * q = q * k := Nat.mul_comm _ _
    have e2 : p * j = j * p := Nat.mul_comm _ _
    show ((if j * p ≤ q * k then 1 else 0) + if k * q ≤ p * j then 1 else 0) = 1
    rw [e1, e2]
    by_cases h6 : j * p ≤ q * k
    · rw [if_pos h6, if_neg (by omega)]
    · rw [if_neg h6, if_pos (by omega)]
  rw [this, S_const, Nat.mul_one]
theorem pow_sub {p a b : Int} (h : p ∣ a - b) : ∀ m : Nat, p ∣ a ^ m - b ^ m
  | 0 => by rw [Int.pow_zero, Int.pow_zero]; exact ⟨0, by omega⟩
  | m + 1 => by rw [Int.pow_succ, Int.pow_succ]; exact dvd_mul_sub (pow_sub h m) h
/-- Legendre's symbol, by Euler -/
def leg (a : Int) (p : Nat) : Int := if a ^ ((p - 1) / 2) % (p : Int) = (p : Int) - 1 then -1 else a ^ ((p - 1) / 2) % (p : Int)
def Tri (v : Int) : Prop := v = -1 ∨ v = 0 ∨ v = 1
theorem Tri.mul {v w : Int} (h1 : Tri v) (h2 : Tri w) : Tri (v * w) := by
  rcases h1 with h | h | h <;> rcases h2 with h' | h' | h' <;> subst h <;> subst h' <;> first | exact .inl rfl | exact .inr (.inl rfl) | exact .inr (.inr rfl)
theorem tri_eq {p : Nat} (h3 : 3 ≤ p) {v w : Int} (h1 : Tri v) (h2 : Tri w) (h : (p : Int) ∣ v - w) : v = w := by
  have h4 : p ∣ (v - w).natAbs := by rw [← Int.natAbs_dvd_natAbs, Int.natAbs_natCast] at h; exact h
  rcases Nat.eq_zero_or_pos (v - w).natAbs with h5 | h5
  · omega
  · have := Nat.le_of_dvd h5 h4
    rcases h1 with h | h | h <;> rcases h2 with h' | h' | h' <;> omega
def OddP (p : Nat) : Prop := Prime p ∧ p % 2 = 1
theorem OddP.three {p : Nat} (h : OddP p) : 3 ≤ p := by have := h.1.1; have := h.2; omega
theorem OddP.half {p : Nat} (h : OddP p) : p = 2 * ((p - 1) / 2) + 1 := by have := h.2; omega
theorem dvd_sub_emod (a : Int) (p : Int) : p ∣ a - a % p := ⟨a / p, by have := Int.mul_ediv_add_emod a p; omega⟩
theorem emod_eq_of_dvd {x v p : Int} (h : p ∣ x - v) : x % p = v % p := Int.emod_eq_emod_iff_emod_sub_eq_zero.2 (Int.emod_eq_zero_of_dvd h)
theorem leg_of {a : Int} {p : Nat} (h : OddP p) {v : Int} (hv : Tri v) (hd : (p : Int) ∣ a ^ ((p - 1) / 2) - v) : leg a p = v := by
  have h3 := h.three
  have e := emod_eq_of_dvd hd
  unfold leg
  rw [e]
  rcases hv with hv | hv | hv <;> subst hv
  · have : (-1 : Int) % (p : Int) = (p : Int) - 1 := by
      rw [← Int.add_emod_right, show (-1 : Int) + (p : Int) = (p : Int) - 1 by omega, Int.emod_eq_of_lt (by omega) (by omega)]
    rw [this, if_pos rfl]
  · rw [Int.zero_emod, if_neg (by omega)]
  · rw [Int.emod_eq_of_lt (by omega) (by omega), if_neg (by omega)]
theorem gauss_int {p : Nat} (h : OddP p) {a : Int} (hd : ¬ (p : Int) ∣ a) : (p : Int) ∣ a ^ ((p - 1) / 2) - sg (mu p ((p - 1) / 2) (a % (p : Int)).toNat) := by
  have h3 := h.three
  have e : ((a % (p : Int)).toNat : Int) = a % (p : Int) := Int.toNat_of_nonneg (Int.emod_nonneg _ (by omega))
  have hn : ¬ p ∣ (a % (p : Int)).toNat := fun hx => hd (by
    have h1 : (p : Int) ∣ a % (p : Int) := by rw [← e]; exact Int.natCast_dvd_natCast.2 hx
    have h2 := Int.dvd_add h1 (dvd_sub_emod a p)
    rwa [show a % (p : Int) + (a - a % (p : Int)) = a by omega] at h2)
  have h1 := gauss h.1 h.half hn
  have h2 := pow_sub (dvd_sub_emod a p) ((p - 1) / 2)
  rw [e] at h1
  have h4 := Int.dvd_add h2 h1
  rwa [show ∀ x y z : Int, x - y + (y - z) = x - z by intro x y z; omega] at h4
theorem leg_spec {p : Nat} (h : OddP p) (a : Int) : Tri (leg a p) ∧ (p : Int) ∣ a ^ ((p - 1) / 2) - leg a p := by
  have h3 := h.three
  by_cases hd : (p : Int) ∣ a
  · have h1 : (p : Int) ∣ a ^ ((p - 1) / 2) - 0 := by
      obtain ⟨k, hk⟩ : ∃ k, (p - 1) / 2 = k + 1 := ⟨(p - 1) / 2 - 1, by omega⟩
      rw [hk, Int.pow_succ, Int.sub_zero]
      exact Int.dvd_mul_of_dvd_right hd
    rw [leg_of h (.inr (.inl rfl)) h1]
    exact ⟨.inr (.inl rfl), h1⟩
  · have h1 := gauss_int h hd
    have ht : Tri (sg (mu p ((p - 1) / 2) (a % (p : Int)).toNat)) := by rcases sg_cases (mu p ((p - 1) / 2) (a % (p : Int)).toNat) with e | e <;> rw [e]; exact .inr (.inr rfl); exact .inl rfl
    rw [leg_of h ht h1]
    exact ⟨ht, h1⟩
theorem leg_mul {p : Nat} (h : OddP p) (a b : Int) : leg (a * b) p = leg a p * leg b p := by
  obtain ⟨h1, h2⟩ := leg_spec h a
  obtain ⟨h3, h4⟩ := leg_spec h b
  refine leg_of h (h1.mul h3) ?_
  rw [Int.mul_pow]
  exact dvd_mul_sub h2 h4
theorem leg_congr {p : Nat} (h : OddP p) {a b : Int} (hd : (p : Int) ∣ a - b) : leg a p = leg b p := by
  obtain ⟨h3, h4⟩ := leg_spec h b
  refine leg_of h h3 ?_
  have h5 := Int.dvd_add (pow_sub hd ((p - 1) / 2)) h4
  rwa [show ∀ x y z : Int, x - y + (y - z) = x - z by intro x y z; omega] at h5
theorem leg_zero {p : Nat} (h : OddP p) {a : Int} (hd : (p : Int) ∣ a) : leg a p = 0 := by
  refine leg_of h (.inr (.inl rfl)) ?_
  have h3 := h.three
  obtain ⟨k, hk⟩ : ∃ k, (p - 1) / 2 = k + 1 := ⟨(p - 1) / 2 - 1, by omega⟩
  rw [hk, Int.pow_succ, Int.sub_zero]
  exact Int.dvd_mul_of_dvd_right hd
theorem leg_ne {p : Nat} (h : OddP p) {a : Int} (hd : ¬ (p : Int) ∣ a) : leg a p = sg (mu p ((p - 1) / 2) (a % (p : Int)).toNat) := by
  refine leg_of h ?_ (gauss_int h hd)
  rcases sg_cases (mu p ((p - 1) / 2) (a % (p : Int)).toNat) with e | e <;> rw [e]
  · exact .inr (.inr rfl)
  · exact .inl rfl
theorem leg_nat {p a : Nat} (h : OddP p) (hd : ¬ p ∣ a) : leg (a : Int) p = sg (mu p ((p - 1) / 2) a) := by
  refine leg_of h ?_ (gauss h.1 h.half hd)
  rcases sg_cases (mu p ((p - 1) / 2) a) with e | e <;> rw [e]
  · exact .inr (.inr rfl)
  · exact .inl rfl
theorem leg_one {p : Nat} (h : OddP p) : leg 1 p = 1 := leg_of h (.inr (.inr rfl)) (by rw [Int.one_pow]; exact ⟨0, by omega⟩)
theorem leg_two {p : Nat} (h : OddP p) : leg 2 p = if p % 8 = 1 ∨ p % 8 = 7 then 1 else -1 := by
  have h3 := h.three
  rw [← mu_two h.1 h.half]
  exact leg_nat (a := 2) h fun hd => by have := Nat.le_of_dvd (by decide) hd; omega
/-- the sign of reciprocity -/
def eps (b n : Nat) : Int := if b % 4 = 3 ∧ n % 4 = 3 then -1 else 1
theorem eps_mul_left {x y n : Nat} (hx : x % 2 = 1) (hy : y % 2 = 1) : eps (x * y) n = eps x n * eps y n := by
  have e : (x * y) % 4 = (x % 4 * (y % 4)) % 4 := Nat.mul_mod _ _ _
  have h1 : x % 4 = 1 ∨ x % 4 = 3 := by omega
  have h2 : y % 4 = 1 ∨ y % 4 = 3 := by omega
  unfold eps
  rw [e]
  by_cases h3 : n % 4 = 3 <;> rcases h1 with h1 | h1 <;> rcases h2 with h2 | h2 <;> simp [h1, h2, h3]
theorem eps_comm (x y : Nat) : eps x y = eps y x := by
  unfold eps
  by_cases h1 : x % 4 = 3 <;> by_cases h2 : y % 4 = 3 <;> simp [h1, h2]
theorem eps_mul_right {x y n : Nat} (hx : x % 2 = 1) (hy : y % 2 = 1) : eps n (x * y) = eps n x * eps n y := by
  rw [eps_comm, eps_mul_left hx hy, eps_comm x n, eps_comm y n]
/-- reciprocity -/
theorem leg_recip {p q : Nat} (hp : OddP p) (hq : OddP q) : leg (q : Int) p = eps q p * leg (p : Int) q := by
  by_cases hpq : p = q
  · subst hpq
    rw [leg_zero hp (Int.dvd_refl _), Int.mul_zero]
  · have hp3 := hp.three
    have hq3 := hq.three
    have n1 : ¬ p ∣ q := fun hd => by rcases hq.1.2 p hd with e | e <;> omega
    have n2 : ¬ q ∣ p := fun hd => by rcases hp.1.2 q hd with e | e <;> omega
    rw [leg_nat hp n1, leg_nat hq n2]
    have ep := hp.half
    have eq := hq.half
    generalize (p - 1) / 2 = m at *
    generalize (q - 1) / 2 = n at *
    have a1 := parity hp.1 ep n1
    have a2 := parity hq.1 eq n2
    rw [sm_map_L] at a1 a2
    have hl := lattice ep eq fun k j h1 h2 h3 h4 e => by
      exact not_dvd hp.1 n1 h1 (by omega) ⟨j, by rw [← e, Nat.mul_comm]⟩
    have e1 : (q + 1) * sm (L m) = 2 * ((n + 1) * sm (L m)) := by rw [eq, ← Nat.mul_assoc]; rfl
    have e2 : (p + 1) * sm (L n) = 2 * ((m + 1) * sm (L n)) := by rw [ep, ← Nat.mul_assoc]; rfl
    have a3 : (mu p m q) % 2 = (m * n + mu q n p) % 2 := by omega
    rw [sg_congr a3, sg_add]
    congr 1
    unfold sg eps
    have hm : (m * n) % 2 = (m % 2 * (n % 2)) % 2 := Nat.mul_mod _ _ _
    rw [hm]
    rcases Nat.mod_two_eq_zero_or_one m with b1 | b1 <;> rcases Nat.mod_two_eq_zero_or_one n with b2 | b2 <;> rw [b1, b2]
    · rw [if_pos (by decide), if_neg (by omega)]
    · rw [if_pos (by decide), if_neg (by omega)]
    · rw [if_pos (by decide), if_neg (by omega)]
    · rw [if_neg (by decide), if_pos (by omega)]
/-- Jacobi's symbol, over a list of primes -/
def jac (a : Int) : List Nat → Int
  | [] => 1
  | p :: t => leg a p * jac a t
def Odds (l : List Nat) : Prop := ∀ p ∈ l, OddP p
theorem Odds.head {p : Nat} {t : List Nat} (h : Odds (p :: t)) : OddP p := h p List.mem_cons_self
theorem Odds.tail {p : Nat} {t : List Nat} (h : Odds (p :: t)) : Odds t := fun q hq => h q (List.mem_cons_of_mem _ hq)
theorem pr_odd : ∀ {l : List Nat}, Odds l → pr l % 2 = 1
  | [], _ => rfl
  | p :: t, h => by
    show p * pr t % 2 = 1
    rw [Nat.mul_mod, h.head.2, pr_odd h.tail]
theorem jac_mul (a b : Int) : ∀ {l : List Nat}, Odds l → jac (a * b) l = jac a l * jac b l
  | [], _ => rfl
  | p :: t, h => by
    show leg (a * b) p * jac (a * b) t = leg a p * jac a t * (leg b p * jac b t)
    rw [leg_mul h.head, jac_mul a b h.tail]; ac_rfl
theorem jac_congr {a b : Int} : ∀ {l : List Nat}, Odds l → (pr l : Int) ∣ a - b → jac a l = jac b l
  | [], _, _ => rfl
  | p :: t, h, hd => by
    have hd' : ((p : Int) * (pr t : Int)) ∣ a - b := by rw [← Int.natCast_mul]; exact hd
    show leg a p * jac a t = leg b p * jac b t
    rw [leg_congr h.head (Int.dvd_trans (Int.dvd_mul_right _ _) hd'), jac_congr h.tail (Int.dvd_trans (Int.dvd_mul_left _ _) hd')]
theorem jac_zero {a : Int} : ∀ {l : List Nat}, Odds l → (∃ p ∈ l, (p : Int) ∣ a) → jac a l = 0
  | [], _, ⟨_, h, _⟩ => nomatch h
  | p :: t, h, ⟨q, hq, hd⟩ => by
    show leg a p * jac a t = 0
    rcases List.mem_cons.1 hq with e | e
    · subst e; rw [leg_zero h.head hd, Int.zero_mul]
    · rw [jac_zero h.tail ⟨q, e, hd⟩, Int.mul_zero]
theorem jac_one : ∀ {l : List Nat}, Odds l → jac 1 l = 1
  | [], _ => rfl
  | p :: t, h => by show leg 1 p * jac 1 t = 1; rw [leg_one h.head, jac_one h.tail]; rfl
theorem jac_two : ∀ {l : List Nat}, Odds l → jac 2 l = if pr l % 8 = 1 ∨ pr l % 8 = 7 then 1 else -1
  | [], _ => rfl
  | p :: t, h => by
    show leg 2 p * jac 2 t = if p * pr t % 8 = 1 ∨ p * pr t % 8 = 7 then 1 else -1
    rw [leg_two h.head, jac_two h.tail]
    have e : (p * pr t) % 8 = (p % 8 * (pr t % 8)) % 8 := Nat.mul_mod _ _ _
    rw [e]
    have o1 := h.head.2
    have o2 := pr_odd h.tail
    have h1 : p % 8 = 1 ∨ p % 8 = 3 ∨ p % 8 = 5 ∨ p % 8 = 7 := by omega
    have h2 : pr t % 8 = 1 ∨ pr t % 8 = 3 ∨ pr t % 8 = 5 ∨ pr t % 8 = 7 := by omega
    rcases h1 with h1 | h1 | h1 | h1 <;> rcases h2 with h2 | h2 | h2 | h2 <;> rw [h1, h2] <;> rfl
theorem leg_jac {p : Nat} (hp : OddP p) : ∀ {l : List Nat}, Odds l → leg (pr l : Int) p = eps (pr l) p * jac p l
  | [], _ => by
    show leg ((1 : Nat) : Int) p = eps 1 p * 1
    rw [show ((1 : Nat) : Int) = 1 from rfl, leg_one hp]; rfl
  | q :: t, h => by
    show leg ((q * pr t : Nat) : Int) p = eps (q * pr t) p * (leg p q * jac p t)
    rw [Int.natCast_mul, leg_mul hp, leg_recip hp h.head, leg_jac hp h.tail, eps_mul_left h.head.2 (pr_odd h.tail)]; ac_rfl
theorem jac_recip {l' : List Nat} (h' : Odds l') : ∀ {l : List Nat}, Odds l → jac (pr l' : Int) l = eps (pr l') (pr l) * jac (pr l : Int) l'
  | [], _ => by
    show 1 = eps (pr l') 1 * jac ((1 : Nat) : Int) l'
    have e : eps (pr l') 1 = 1 := by unfold eps; rw [if_neg (by omega)]
    rw [show ((1 : Nat) : Int) = 1 from rfl, jac_one h', e]; rfl
  | p :: t, h => by
    show leg (pr l' : Int) p * jac (pr l' : Int) t = eps (pr l') (p * pr t) * jac ((p * pr t : Nat) : Int) l'
    rw [Int.natCast_mul, jac_mul _ _ h', leg_jac h.head h', jac_recip h' h.tail, eps_mul_right h.head.2 (pr_odd h.tail)]; ac_rfl
theorem pr_app : ∀ l l' : List Nat, pr (l ++ l') = pr l * pr l'
  | [], l' => (Nat.one_mul _).symm
  | x :: t, l' => by show x * pr (t ++ l') = x * pr t * pr l'; rw [pr_app t l', Nat.mul_assoc]
theorem mem_dvd : ∀ {l : List Nat} {p : Nat}, p ∈ l → p ∣ pr l
  | x :: t, p, h => by
    rcases List.mem_cons.1 h with e | e
    · subst e; exact Nat.dvd_mul_right _ _
    · exact Nat.dvd_trans (mem_dvd e) (Nat.dvd_mul_left _ _)
/-- every number is a product of primes -/
theorem exists_primes (n : Nat) : 1 ≤ n → ∃ l : List Nat, (∀ p ∈ l, Prime p) ∧ pr l = n := by
  induction n using Nat.strongRecOn with
  | ind n ih =>
    intro h1
    by_cases hn : n = 1
    · exact ⟨[], (fun p (h : p ∈ []) => nomatch h), hn.symm⟩
    · by_cases hp : Prime n
      · exact ⟨[n], fun p h => by rw [List.mem_singleton.1 h]; exact hp, Nat.mul_one n⟩
      · have : ¬ ∀ m, m ∣ n → m = 1 ∨ m = n := fun h => hp ⟨by omega, h⟩
        obtain ⟨m, hm⟩ := Classical.not_forall.1 this
        have hd : m ∣ n := Classical.byContradiction fun h => hm fun h' => absurd h' h
        have hne : m ≠ 1 ∧ m ≠ n := ⟨fun e => hm fun _ => .inl e, fun e => hm fun _ => .inr e⟩
        obtain ⟨c, rfl⟩ := hd
        have m0 : m ≠ 0 := fun e => by subst e; omega
        have c0 : c ≠ 0 := fun e => by subst e; omega
        have c1 : c ≠ 1 := fun e => by subst e; omega
        have l1 : m < m * c := by
          have : m * 2 ≤ m * c := Nat.mul_le_mul_left m (by omega)
          omega
        have l2 : c < m * c := by
          have : 2 * c ≤ m * c := Nat.mul_le_mul_right c (by omega)
          omega
        obtain ⟨t1, a1, a2⟩ := ih m l1 (by omega)
        obtain ⟨t2, b1, b2⟩ := ih c l2 (by omega)
        refine ⟨t1 ++ t2, fun p h => ?_, by rw [pr_app, a2, b2]⟩
        rcases List.mem_append.1 h with h | h
        · exact a1 p h
        · exact b1 p h
theorem odds_of {l : List Nat} (h : ∀ p ∈ l, Prime p) (ho : pr l % 2 = 1) : Odds l := fun p hp => ⟨h p hp, by
  have h2 := Nat.mod_mod_of_dvd (pr l) (show 1 ∣ 2 by decide)
  rcases Nat.mod_two_eq_zero_or_one p with e | e
  · have h3 : 2 ∣ pr l := Nat.dvd_trans (Nat.dvd_of_mod_eq_zero e) (mem_dvd hp)
    have := Nat.mod_eq_zero_of_dvd h3; omega
  · exact e⟩
theorem exists_odds {n : Nat} (h : n % 2 = 1) : ∃ l : List Nat, Odds l ∧ pr l = n := by
  obtain ⟨l, h1, h2⟩ := exists_primes n (by omega)
  exact ⟨l, odds_of h1 (by rw [h2]; exact h), h2⟩
/-- the algorithm: twos are taken off -/
def tw : Nat → Nat → Nat → Int → Nat × Int
  | 0, a, _, o => (a, o)
  | f + 1, a, n, o => if a % 2 = 0 then tw f (a / 2) n (if n % 8 = 3 ∨ n % 8 = 5 then -o else o) else (a, o)
def jl : Nat → Nat → Nat → Int → Int
  | 0, _, _, _ => 0
  | f + 1, a, n, o => if a = 0 then (if 1 < n then 0 else o) else jl f (n % (tw a a n o).1) (tw a a n o).1 (if (tw a a n o).1 % 4 = 3 ∧ n % 4 = 3 then -(tw a a n o).2 else (tw a a n o).2)
theorem tw_ok {l : List Nat} (h : Odds l) : ∀ (f a : Nat) (o : Int), 1 ≤ a → a ≤ f → (tw f a (pr l) o).1 % 2 = 1 ∧ (tw f a (pr l) o).1 ≤ a ∧ o * jac a l = (tw f a (pr l) o).2 * jac (tw f a (pr l) o).1 l
  | 0, a, o, h1, h2 => by omega
  | f + 1, a, o, h1, h2 => by
    unfold tw
    by_cases e : a % 2 = 0
    · rw [if_pos e]
      obtain ⟨i1, i2, i3⟩ := tw_ok h f (a / 2) (if pr l % 8 = 3 ∨ pr l % 8 = 5 then -o else o) (by omega) (by omega)
      refine ⟨i1, by omega, ?_⟩
      rw [← i3]
      have ea : (a : Int) = 2 * ((a / 2 : Nat) : Int) := by omega
      rw [ea, jac_mul _ _ h, jac_two h]
      have ho := pr_odd h
      by_cases h8 : pr l % 8 = 3 ∨ pr l % 8 = 5
      · rw [if_pos h8, if_neg (by omega), ← Int.mul_assoc]; congr 1; omega
      · rw [if_neg h8, if_pos (by omega), Int.one_mul]
    · rw [if_neg e]; exact ⟨by show a % 2 = 1; omega, Nat.le_refl _, rfl⟩
theorem jl_ok : ∀ (f a : Nat) (l : List Nat) (o : Int), Odds l → a < f → jl f a (pr l) o = o * jac a l
  | 0, a, l, o, h, hf => by omega
  | f + 1, a, l, o, h, hf => by
    unfold jl
    by_cases e : a = 0
    · rw [if_pos e]
      subst e
      cases l with
      | nil => rw [if_neg (by decide)]; exact (Int.mul_one o).symm
      | cons p t =>
        have hp := h.head.three
        have h1 : 1 ≤ pr t := by have := pr_odd h.tail; omega
        have : 1 < pr (p :: t) := by
          show 1 < p * pr t
          have : 3 * 1 ≤ p * pr t := Nat.mul_le_mul hp h1
          omega
        rw [if_pos this, jac_zero h ⟨p, List.mem_cons_self, ⟨0, by simp⟩⟩, Int.mul_zero]
    · rw [if_neg e]
      obtain ⟨i1, i2, i3⟩ := tw_ok h a a o (by omega) (Nat.le_refl _)
      rw [i3]
      generalize (tw a a (pr l) o).2 = w at *
      generalize (tw a a (pr l) o).1 = b at *
      obtain ⟨l', h', hb⟩ := exists_odds i1
      subst hb
      have hlt : pr l % pr l' < pr l' := Nat.mod_lt _ (by omega)
      rw [jl_ok f (pr l % pr l') l' _ h' (by omega), jac_recip h' h]
      have hc : jac ((pr l % pr l' : Nat) : Int) l' = jac (pr l : Int) l' := jac_congr h' ⟨-((pr l / pr l' : Nat) : Int), by
        have e1 : ((pr l : Nat) : Int) = (pr l' : Int) * ((pr l / pr l' : Nat) : Int) + ((pr l % pr l' : Nat) : Int) := by
          have := (Nat.div_add_mod (pr l) (pr l')).symm
          exact_mod_cast this
        rw [Int.mul_neg]; omega⟩
      rw [hc, ← Int.mul_assoc]
      congr 1
      unfold eps
      split
      · omega
      · omega
end Go.AM.QR
namespace Go.AM.QR
/-- the symbol at a prime -/
def kp (d : Int) (p : Nat) : Int := if 2 < p then leg d p else if d % 8 = 1 then 1 else if d % 8 = 5 then -1 else 0
def kron (d : Int) : List Nat → Int
  | [] => 1
  | p :: t => kp d p * kron d t
theorem kron_perm {d : Int} {l l' : List Nat} (h : l.Perm l') : kron d l = kron d l' := by
  induction h with
  | nil => rfl
  | cons x _ ih => show kp d x * _ = kp d x * _; rw [ih]
  | swap x y l => show kp d y * (kp d x * kron d l) = kp d x * (kp d y * kron d l); ac_rfl
  | trans _ _ h1 h2 => rw [h1, h2]
theorem kron_app {d : Int} : ∀ l l' : List Nat, kron d (l ++ l') = kron d l * kron d l'
  | [], l' => (Int.one_mul _).symm
  | x :: t, l' => by show kp d x * kron d (t ++ l') = kp d x * kron d t * kron d l'; rw [kron_app t l', Int.mul_assoc]
theorem kron_odds {d : Int} : ∀ {l : List Nat}, Odds l → kron d l = jac d l
  | [], _ => rfl
  | p :: t, h => by
    show kp d p * kron d t = leg d p * jac d t
    have h3 := h.head.three
    rw [kron_odds h.tail]
    unfold kp; rw [if_pos (by omega)]
theorem kp_tri {d : Int} {p : Nat} (h : Prime p) : Tri (kp d p) := by
  unfold kp
  split
  · rename_i h2
    refine (leg_spec ⟨h, ?_⟩ d).1
    rcases Nat.mod_two_eq_zero_or_one p with e | e
    · rcases h.2 2 (Nat.dvd_of_mod_eq_zero e) with h3 | h3 <;> omega
    · exact e
  · split
    · exact .inr (.inr rfl)
    · split
      · exact .inl rfl
      · exact .inr (.inl rfl)
theorem kron_tri {d : Int} : ∀ {l : List Nat}, (∀ p ∈ l, Prime p) → Tri (kron d l)
  | [], _ => .inr (.inr rfl)
  | p :: t, h => (kp_tri (h p List.mem_cons_self)).mul (kron_tri fun q hq => h q (List.mem_cons_of_mem _ hq))
/-- Jacobi's symbol, computed -/
def jv (a : Int) (n : Nat) : Int := jl ((a % (n : Int)).toNat + 1) (a % (n : Int)).toNat n 1
theorem jv_ok {a : Int} {l : List Nat} (h : Odds l) : jv a (pr l) = jac a l := by
  have h0 : pr l ≠ 0 := by have := pr_odd h; omega
  have e : ((a % (pr l : Int)).toNat : Int) = a % (pr l : Int) := Int.toNat_of_nonneg (Int.emod_nonneg _ (by omega))
  unfold jv
  rw [jl_ok _ _ l 1 h (by omega), Int.one_mul, e]
  refine jac_congr h ?_
  have := dvd_sub_emod a (pr l : Int)
  have h2 := Int.dvd_neg.2 this
  rwa [Int.neg_sub] at h2
def k2 : Nat → Int → Nat → Int → Int
  | 0, _, _, _ => 0
  | f + 1, d, n, o => if n % 2 = 0 then (if d % 8 = 1 then k2 f d (n / 2) o else if d % 8 = 5 then k2 f d (n / 2) (-o) else 0) else o * jv d n
theorem two_mem : ∀ {l : List Nat}, (∀ p ∈ l, Prime p) → pr l % 2 = 0 → 2 ∈ l
  | [], _, h => by have : (1 : Nat) % 2 = 0 := h; omega
  | p :: t, hp, h => by
    have h1 : p * pr t % 2 = 0 := h
    rcases Nat.mod_two_eq_zero_or_one p with e | e
    · rcases (hp p List.mem_cons_self).2 2 (Nat.dvd_of_mod_eq_zero e) with h3 | h3
      · omega
      · subst h3; exact List.mem_cons_self
    · rw [Nat.mul_mod, e, Nat.one_mul, Nat.mod_mod] at h1
      exact List.mem_cons_of_mem _ (two_mem (fun q hq => hp q (List.mem_cons_of_mem _ hq)) h1)
theorem k2_ok {d : Int} : ∀ (f n : Nat) (o : Int) (l : List Nat), (∀ p ∈ l, Prime p) → pr l = n → 1 ≤ n → n ≤ f → k2 f d n o = o * kron d l
  | 0, n, o, l, hp, hn, h1, h2 => by omega
  | f + 1, n, o, l, hp, hn, h1, h2 => by
    unfold k2
    by_cases e : n % 2 = 0
    · rw [if_pos e]
      have hm := two_mem hp (by rw [hn]; exact e)
      have hperm := List.perm_cons_erase hm
      have hpr : 2 * pr (l.erase 2) = n := by rw [← hn, pr_perm hperm]; rfl
      have hp' : ∀ p ∈ l.erase 2, Prime p := fun p h => hp p (List.mem_of_mem_erase h)
      have hk : kron d l = kp d 2 * kron d (l.erase 2) := by rw [kron_perm hperm]; rfl
      have hr := fun o => k2_ok (d := d) f (n / 2) o (l.erase 2) hp' (by omega) (by omega) (by omega)
      rw [hk]
      have hk2 : kp d 2 = if d % 8 = 1 then 1 else if d % 8 = 5 then -1 else 0 := if_neg (by decide)
      rw [hk2]
      by_cases e1 : d % 8 = 1
      · rw [if_pos e1, if_pos e1, hr, Int.one_mul]
      · rw [if_neg e1, if_neg e1]
        by_cases e5 : d % 8 = 5
        · rw [if_pos e5, if_pos e5, hr]
          rw [Int.neg_mul, Int.neg_mul, Int.one_mul, Int.mul_neg]
        · rw [if_neg e5, if_neg e5, Int.zero_mul, Int.mul_zero]
    · rw [if_neg e]
      have ho : Odds l := odds_of hp (by rw [hn]; omega)
      rw [← hn, jv_ok ho, kron_odds ho]
/-- the sign of two negative numbers -/
def sn (d n : Int) : Int := if n < 0 ∧ d < 0 then -1 else 1
/-- Kronecker's symbol, computed -/
def K (d n : Int) : Int := if n = 0 then (if d = 1 then 1 else 0) else k2 n.natAbs d n.natAbs (sn d n)
theorem K_ok {d n : Int} (h0 : n ≠ 0) {l : List Nat} (hp : ∀ p ∈ l, Prime p) (hn : pr l = n.natAbs) : K d n = sn d n * kron d l := by
  unfold K
  rw [if_neg h0]
  exact k2_ok _ _ _ l hp hn (by omega) (Nat.le_refl _)
theorem sn_tri {d n : Int} : Tri (sn d n) := by
  unfold sn; split
  · exact .inl rfl
  · exact .inr (.inr rfl)
theorem K_tri {d n : Int} : Tri (K d n) := by
  by_cases h0 : n = 0
  · unfold K
    rw [if_pos h0]
    split
    · exact .inr (.inr rfl)
    · exact .inr (.inl rfl)
  · obtain ⟨l, h1, h2⟩ := exists_primes n.natAbs (by omega)
    rw [K_ok h0 h1 h2]
    exact sn_tri.mul (kron_tri h1)
theorem sn_mul {d m n : Int} (hm : m ≠ 0) (hn : n ≠ 0) : sn d (m * n) = sn d m * sn d n := by
  unfold sn
  by_cases hd : d < 0
  · by_cases h1 : m < 0 <;> by_cases h2 : n < 0
    · have : ¬ m * n < 0 := by have := Int.mul_pos_of_neg_of_neg h1 h2; omega
      simp [hd, h1, h2, this]
    · have : m * n < 0 := Int.mul_neg_of_neg_of_pos h1 (by omega)
      simp [hd, h1, h2, this]
    · have : m * n < 0 := Int.mul_neg_of_pos_of_neg (by omega) h2
      simp [hd, h1, h2, this]
    · have : ¬ m * n < 0 := by have := Int.mul_pos (show 0 < m by omega) (show 0 < n by omega); omega
      simp [hd, h1, h2, this]
  · simp [hd]
/-- the symbol is multiplicative -/
theorem K_mul {d m n : Int} (hd : d ≠ 1) : K d (m * n) = K d m * K d n := by
  by_cases hm : m = 0
  · subst hm
    rw [Int.zero_mul]
    unfold K; rw [if_pos rfl, if_neg hd, Int.zero_mul]
  · by_cases hn : n = 0
    · subst hn
      rw [Int.mul_zero]
      have : K d 0 = 0 := by unfold K; rw [if_pos rfl, if_neg hd]
      rw [this, Int.mul_zero]
    · obtain ⟨l, h1, h2⟩ := exists_primes m.natAbs (by omega)
      obtain ⟨l', h1', h2'⟩ := exists_primes n.natAbs (by omega)
      have hp : ∀ p ∈ l ++ l', Prime p := fun p h => by
        rcases List.mem_append.1 h with h | h
        · exact h1 p h
        · exact h1' p h
      have hmn : m * n ≠ 0 := by
        intro h; rcases Int.mul_eq_zero.1 h with h | h
        · exact hm h
        · exact hn h
      rw [K_ok hm h1 h2, K_ok hn h1' h2', K_ok hmn hp (by rw [pr_app, h2, h2', Int.natAbs_mul]), kron_app, sn_mul hm hn]
      ac_rfl
end Go.AM.QR
namespace Go.AM.QR
theorem neg_pow (m : Nat) : (-1 : Int) ^ m = sg m := by
  induction m with
  | zero => rfl
  | succ m ih => rw [Int.pow_succ, ih, sg_add]; rfl
theorem leg_neg {p : Nat} (h : OddP p) : leg (-1) p = if p % 4 = 1 then 1 else -1 := by
  have ho := h.2
  refine leg_of h ?_ ?_
  · split
    · exact .inr (.inr rfl)
    · exact .inl rfl
  · rw [neg_pow]
    unfold sg
    by_cases e : p % 4 = 1
    · rw [if_pos e, if_pos (by omega)]; exact ⟨0, by simp⟩
    · rw [if_neg e, if_neg (by omega)]; exact ⟨0, by simp⟩
theorem jac_neg : ∀ {l : List Nat}, Odds l → jac (-1) l = if pr l % 4 = 1 then 1 else -1
  | [], _ => rfl
  | p :: t, h => by
    show leg (-1) p * jac (-1) t = if p * pr t % 4 = 1 then 1 else -1
    rw [leg_neg h.head, jac_neg h.tail]
    have e : (p * pr t) % 4 = (p % 4 * (pr t % 4)) % 4 := Nat.mul_mod _ _ _
    rw [e]
    have o1 := h.head.2
    have o2 := pr_odd h.tail
    have h1 : p % 4 = 1 ∨ p % 4 = 3 := by omega
    have h2 : pr t % 4 = 1 ∨ pr t % 4 = 3 := by omega
    rcases h1 with h1 | h1 <;> rcases h2 with h2 | h2 <;> rw [h1, h2] <;> rfl
theorem jac_pow (a : Int) {l : List Nat} (h : Odds l) : ∀ e : Nat, jac (a ^ e) l = jac a l ^ e
  | 0 => by rw [Int.pow_zero, Int.pow_zero, jac_one h]
  | e + 1 => by rw [Int.pow_succ, Int.pow_succ, jac_mul _ _ h, jac_pow a h e]
/-- a number as sign, power of two and odd number -/
theorem exists_odd (a : Nat) : 1 ≤ a → ∃ e q : Nat, a = 2 ^ e * q ∧ q % 2 = 1 := by
  induction a using Nat.strongRecOn with
  | ind a ih =>
    intro h
    rcases Nat.mod_two_eq_zero_or_one a with e | e
    · obtain ⟨k, q, h1, h2⟩ := ih (a / 2) (by omega) (by omega)
      refine ⟨k + 1, q, ?_, h2⟩
      rw [Nat.pow_succ, Nat.mul_comm (2 ^ k) 2, Nat.mul_assoc, ← h1]; omega
    · exact ⟨0, a, by simp, e⟩
/-- the symbol of a discriminant that is odd, by reciprocity -/
theorem kp_jac {d : Int} (hd : d % 4 = 1) {ld : List Nat} (h : Odds ld) (hl : pr ld = d.natAbs) {p : Nat} (hp : Prime p) : kp d p = jac (p : Int) ld := by
  by_cases h2 : p = 2
  · subst h2
    have e : kp d 2 = if d % 8 = 1 then 1 else if d % 8 = 5 then -1 else 0 := if_neg (by decide)
    rw [e, show ((2 : Nat) : Int) = 2 from rfl, jac_two h, hl]
    by_cases h1 : d % 8 = 1
    · rw [if_pos h1, if_pos (by omega)]
    · rw [if_neg h1, if_pos (by omega), if_neg (by omega)]
  · have ho : OddP p := ⟨hp, by
      rcases Nat.mod_two_eq_zero_or_one p with e | e
      · rcases hp.2 2 (Nat.dvd_of_mod_eq_zero e) with h3 | h3 <;> omega
      · exact e⟩
    have h3 := ho.three
    have e : kp d p = leg d p := if_pos (by omega)
    have ho2 := ho.2
    rw [e]
    have hj := leg_jac ho h
    by_cases hs : 0 ≤ d
    · have ed : d = (pr ld : Int) := by omega
      rw [← ed] at hj
      rw [hj]
      unfold eps
      rw [if_neg (by omega), Int.one_mul]
    · have ed : d = -1 * (pr ld : Int) := by omega
      rw [ed, leg_mul ho, leg_neg ho, hj]
      unfold eps
      by_cases h4 : p % 4 = 1
      · rw [if_pos h4, if_neg (by omega), Int.one_mul, Int.one_mul]
      · rw [if_neg h4, if_pos (by omega), ← Int.mul_assoc]
        rw [show (-1 : Int) * -1 = 1 from rfl, Int.one_mul]
theorem kron_jac {d : Int} (hd : d % 4 = 1) {ld : List Nat} (h : Odds ld) (hl : pr ld = d.natAbs) : ∀ {l : List Nat}, (∀ p ∈ l, Prime p) → kron d l = jac (pr l : Int) ld
  | [], _ => (jac_one h).symm
  | p :: t, hp => by
    show kp d p * kron d t = jac ((p * pr t : Nat) : Int) ld
    rw [Int.natCast_mul, jac_mul _ _ h, kp_jac hd h hl (hp p List.mem_cons_self), kron_jac hd h hl fun q hq => hp q (List.mem_cons_of_mem _ hq)]
theorem sn_pos {d n : Int} (hn : 0 < n) : sn d n = 1 := by unfold sn; rw [if_neg (by omega)]
theorem K_even {d : Int} (hd : d % 4 = 0) {n : Int} (hn : 0 < n) (he : n % 2 = 0) : K d n = 0 := by
  obtain ⟨l, h1, h2⟩ := exists_primes n.natAbs (by omega)
  rw [K_ok (by omega) h1 h2]
  have hm := two_mem h1 (by rw [h2]; omega)
  have hk : kron d l = kp d 2 * kron d (l.erase 2) := by rw [kron_perm (List.perm_cons_erase hm)]; rfl
  have e : kp d 2 = 0 := by
    unfold kp; rw [if_neg (by decide), if_neg (by omega), if_neg (by omega)]
  rw [hk, e, Int.zero_mul, Int.mul_zero]
theorem jac_two_congr {l l' : List Nat} (h : Odds l) (h' : Odds l') (e : pr l % 8 = pr l' % 8) : jac 2 l = jac 2 l' := by
  rw [jac_two h, jac_two h', e]
/-- the period -/
theorem K_period {d : Int} (h0 : d ≠ 0) (hd : d % 4 = 0 ∨ d % 4 = 1) {n : Int} (hn : 0 < n) : K d (n + d.natAbs) = K d n := by
  rcases hd with hd | hd
  · rcases Int.emod_two_eq n with e | e
    · rw [K_even hd hn e, K_even hd (by omega) (by omega)]
    · obtain ⟨l, h1, h2⟩ := exists_primes n.natAbs (by omega)
      obtain ⟨l', h1', h2'⟩ := exists_primes (n + d.natAbs).natAbs (by omega)
      have o : Odds l := odds_of h1 (by rw [h2]; omega)
      have o' : Odds l' := odds_of h1' (by rw [h2']; omega)
      rw [K_ok (by omega) h1 h2, K_ok (by omega) h1' h2', sn_pos hn, sn_pos (by omega), Int.one_mul, Int.one_mul, kron_odds o, kron_odds o']
      obtain ⟨e2, q, hq, hq2⟩ := exists_odd d.natAbs (by omega)
      obtain ⟨lq, oq, hlq⟩ := exists_odds hq2
      have hle : 2 ≤ e2 := by
        have h4 : d.natAbs % 4 = 0 := by omega
        match e2, hq with
        | 0, hq => rw [Nat.pow_zero, Nat.one_mul] at hq; omega
        | 1, hq => rw [Nat.pow_one] at hq; omega
        | k + 2, _ => omega
      have c4 : pr l % 4 = pr l' % 4 := by rw [h2, h2']; omega
      have key : ∀ s : Int, s = 1 ∨ s = -1 → d = s * (2 ^ e2 * (q : Int)) → jac d l' = jac d l := by
        intro s hs hds
        rw [hds, jac_mul _ _ o, jac_mul _ _ o', jac_mul _ _ o, jac_mul _ _ o', jac_pow _ o, jac_pow _ o']
        have a1 : jac s l' = jac s l := by
          rcases hs with rfl | rfl
          · rw [jac_one o, jac_one o']
          · rw [jac_neg o, jac_neg o', c4]
        have a2 : jac 2 l' ^ e2 = jac 2 l ^ e2 := by
          by_cases h2e : e2 = 2
          · subst h2e
            rw [Int.pow_succ, Int.pow_succ, Int.pow_zero, Int.one_mul, Int.pow_succ, Int.pow_succ, Int.pow_zero, Int.one_mul, jac_two o, jac_two o']
            split <;> split <;> rfl
          · have h8 : d.natAbs % 8 = 0 := by
              obtain ⟨k, rfl⟩ : ∃ k, e2 = k + 3 := ⟨e2 - 3, by omega⟩
              rw [hq, Nat.pow_add, Nat.mul_comm (2 ^ k), Nat.mul_assoc]
              exact Nat.mul_mod_right 8 _
            rw [jac_two_congr o' o (by rw [h2, h2']; omega)]
        have a3 : jac (q : Int) l' = jac (q : Int) l := by
          rw [← hlq, jac_recip oq o, jac_recip oq o']
          have b1 : eps (pr lq) (pr l') = eps (pr lq) (pr l) := by unfold eps; rw [c4]
          have b2 : jac (pr l' : Int) lq = jac (pr l : Int) lq := by
            refine jac_congr oq ?_
            rw [h2, h2', hlq]
            have b3 : ((n + (d.natAbs : Int)).natAbs : Int) - (n.natAbs : Int) = (d.natAbs : Int) := by omega
            rw [b3, hq, Int.natCast_mul]
            exact Int.dvd_mul_left _ _
          rw [b1, b2]
        rw [a1, a2, a3]
      by_cases hs : 0 ≤ d
      · refine key 1 (.inl rfl) ?_
        have : (d.natAbs : Int) = ((2 ^ e2 * q : Nat) : Int) := by rw [← hq]
        rw [Int.natCast_mul, Int.natCast_pow] at this
        rw [Int.one_mul]
        show d = (2 : Int) ^ e2 * q
        have t2 : ((2 : Nat) : Int) = 2 := rfl
        rw [t2] at this
        omega
      · refine key (-1) (.inr rfl) ?_
        have : (d.natAbs : Int) = ((2 ^ e2 * q : Nat) : Int) := by rw [← hq]
        rw [Int.natCast_mul, Int.natCast_pow] at this
        have t2 : ((2 : Nat) : Int) = 2 := rfl
        rw [t2] at this
        rw [Int.neg_mul, Int.one_mul]
        omega
  · obtain ⟨ld, od, hld⟩ := exists_odds (n := d.natAbs) (by omega)
    obtain ⟨l, h1, h2⟩ := exists_primes n.natAbs (by omega)
    obtain ⟨l', h1', h2'⟩ := exists_primes (n + d.natAbs).natAbs (by omega)
    rw [K_ok (by omega) h1 h2, K_ok (by omega) h1' h2', sn_pos hn, sn_pos (by omega), Int.one_mul, Int.one_mul, kron_jac hd od hld h1, kron_jac hd od hld h1']
    refine jac_congr od ?_
    rw [h2, h2', hld]
    exact ⟨1, by omega⟩
theorem leg_eq_zero {p : Nat} (h : OddP p) {a : Int} : leg a p = 0 ↔ (p : Int) ∣ a := by
  refine ⟨fun e => Classical.byContradiction fun hd => ?_, leg_zero h⟩
  rw [leg_ne h hd] at e
  rcases sg_cases (mu p ((p - 1) / 2) (a % (p : Int)).toNat) with h1 | h1 <;> rw [h1] at e <;> omega
theorem kp_zero {d : Int} (hd : d % 4 = 0 ∨ d % 4 = 1) {p : Nat} (hp : Prime p) : kp d p = 0 ↔ p ∣ d.natAbs := by
  by_cases h2 : p = 2
  · subst h2
    have e : kp d 2 = if d % 8 = 1 then 1 else if d % 8 = 5 then -1 else 0 := if_neg (by decide)
    rw [e]
    rcases hd with hd | hd
    · rw [if_neg (by omega), if_neg (by omega)]
      exact ⟨fun _ => Nat.dvd_of_mod_eq_zero (by omega), fun _ => rfl⟩
    · have : ¬ 2 ∣ d.natAbs := fun h => by have := Nat.mod_eq_zero_of_dvd h; omega
      by_cases h8 : d % 8 = 1
      · rw [if_pos h8]; exact ⟨fun h => by omega, fun h => absurd h this⟩
      · rw [if_neg h8, if_pos (by omega)]; exact ⟨fun h => by omega, fun h => absurd h this⟩
  · have ho : OddP p := ⟨hp, by
      rcases Nat.mod_two_eq_zero_or_one p with e | e
      · rcases hp.2 2 (Nat.dvd_of_mod_eq_zero e) with h3 | h3 <;> omega
      · exact e⟩
    have h3 := ho.three
    have e : kp d p = leg d p := if_pos (by omega)
    rw [e, leg_eq_zero ho, ← Int.natAbs_dvd_natAbs, Int.natAbs_natCast]
theorem kron_zero {d : Int} (hd : d % 4 = 0 ∨ d % 4 = 1) : ∀ {l : List Nat}, (∀ p ∈ l, Prime p) → (kron d l = 0 ↔ ∃ p ∈ l, p ∣ d.natAbs)
  | [], _ => ⟨fun h => by have : (1 : Int) = 0 := h; omega, fun ⟨_, h, _⟩ => nomatch h⟩
  | p :: t, hp => by
    have ih := kron_zero hd (l := t) fun q hq => hp q (List.mem_cons_of_mem _ hq)
    show kp d p * kron d t = 0 ↔ _
    rw [Int.mul_eq_zero, kp_zero hd (hp p List.mem_cons_self), ih]
    constructor
    · rintro (h | ⟨q, h1, h2⟩)
      · exact ⟨p, List.mem_cons_self, h⟩
      · exact ⟨q, List.mem_cons_of_mem _ h1, h2⟩
    · rintro ⟨q, h1, h2⟩
      rcases List.mem_cons.1 h1 with rfl | h1
      · exact .inl h2
      · exact .inr ⟨q, h1, h2⟩
/-- a prime that divides a product of primes is one of them -/
theorem mem_of_dvd {q : Nat} (hq : Prime q) : ∀ {l : List Nat}, (∀ p ∈ l, Prime p) → q ∣ pr l → q ∈ l
  | [], _, h => by have h1 : q ≤ 1 := Nat.le_of_dvd (by decide) h; have := hq.1; omega
  | p :: t, hp, h => by
    rcases hq.dvd_mul h with h1 | h1
    · rcases (hp p List.mem_cons_self).2 q h1 with h2 | h2
      · have := hq.1; omega
      · subst h2; exact List.mem_cons_self
    · exact List.mem_cons_of_mem _ (mem_of_dvd hq (fun r hr => hp r (List.mem_cons_of_mem _ hr)) h1)
/-- where the symbol is zero -/
theorem K_zero {d m : Int} (h1 : d ≠ 1) (h0 : d ≠ 0) (hd : d % 4 = 0 ∨ d % 4 = 1) : K d m = 0 ↔ Nat.gcd m.natAbs d.natAbs ≠ 1 := by
  by_cases hm : m = 0
  · subst hm
    have : K d 0 = 0 := by unfold K; rw [if_pos rfl, if_neg h1]
    rw [this, show (0 : Int).natAbs = 0 from rfl, Nat.gcd_zero_left]
    exact ⟨fun _ => by omega, fun _ => rfl⟩
  · obtain ⟨l, h2, h3⟩ := exists_primes m.natAbs (by omega)
    rw [K_ok hm h2 h3, Int.mul_eq_zero, kron_zero hd h2]
    constructor
    · rintro (h | ⟨p, hp, hpd⟩) hg
      · unfold sn at h; split at h <;> omega
      · have : p ∣ Nat.gcd m.natAbs d.natAbs := Nat.dvd_gcd (by rw [← h3]; exact mem_dvd hp) hpd
        rw [hg] at this
        have h4 := Nat.le_of_dvd (by decide) this
        have := (h2 p hp).1
        omega
    · intro hg
      refine .inr ?_
      have hg0 : 1 ≤ Nat.gcd m.natAbs d.natAbs := Nat.gcd_pos_of_pos_left _ (by omega)
      obtain ⟨lg, g1, g2⟩ := exists_primes _ hg0
      cases lg with
      | nil => exact absurd g2.symm hg
      | cons p t =>
        have hp := g1 p List.mem_cons_self
        have hpg : p ∣ Nat.gcd m.natAbs d.natAbs := by rw [← g2]; exact mem_dvd List.mem_cons_self
        exact ⟨p, mem_of_dvd hp h2 (by rw [h3]; exact Nat.dvd_trans hpg (Nat.gcd_dvd_left _ _)), Nat.dvd_trans hpg (Nat.gcd_dvd_right _ _)⟩
end Go.AM.QR
