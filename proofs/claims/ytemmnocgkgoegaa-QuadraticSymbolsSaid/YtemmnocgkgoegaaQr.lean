/- Quadratic reciprocity: Gauss's lemma and Eisenstein's count. No condition. -/
import Derived.Test.YtemmnocgkgoegaaAm0
set_option linter.unusedVariables false
namespace Go.AM.QR
def Prime (p : Nat) : Prop := 2 ≤ p ∧ ∀ m, m ∣ p → m = 1 ∨ m = p
theorem Prime.coprime {p a : Nat} (hp : Prime p) (h : ¬ p ∣ a) : Nat.Coprime p a := by
  rcases hp.2 _ (Nat.gcd_dvd_left p a) with e | e
  · exact e
  · exact absurd (e ▸ Nat.gcd_dvd_right p a) h
theorem Prime.dvd_mul {p a b : Nat} (hp : Prime p) (h : p ∣ a * b) : p ∣ a ∨ p ∣ b := by
  by_cases ha : p ∣ a
  · exact .inl ha
  · exact .inr ((hp.coprime ha).dvd_of_dvd_mul_left h)
def pr : List Nat → Nat
  | [] => 1
  | x :: t => x * pr t
def sm : List Nat → Nat
  | [] => 0
  | x :: t => x + sm t
theorem pr_perm {l l' : List Nat} (h : l.Perm l') : pr l = pr l' := by
  induction h with
  | nil => rfl
  | cons x _ ih => show x * _ = x * _; rw [ih]
  | swap x y l => show y * (x * pr l) = x * (y * pr l); rw [← Nat.mul_assoc, Nat.mul_comm y x, Nat.mul_assoc]
  | trans _ _ h1 h2 => rw [h1, h2]
theorem sm_perm {l l' : List Nat} (h : l.Perm l') : sm l = sm l' := by
  induction h with
  | nil => rfl
  | cons x _ ih => show x + _ = x + _; rw [ih]
  | swap x y l => show y + (x + sm l) = x + (y + sm l); omega
  | trans _ _ h1 h2 => rw [h1, h2]
theorem sm_app : ∀ l l' : List Nat, sm (l ++ l') = sm l + sm l'
  | [], l' => by show sm l' = 0 + sm l'; omega
  | x :: t, l' => by show x + sm (t ++ l') = x + sm t + sm l'; rw [sm_app t l']; omega
theorem perm_of {l : List Nat} : ∀ {l' : List Nat}, l.Nodup → l'.Nodup → (∀ x ∈ l, x ∈ l') → l.length = l'.length → l.Perm l' := by
  induction l with
  | nil => intro l' _ _ _ h; cases l' with | nil => exact .nil | cons _ _ => simp at h
  | cons x t ih =>
    intro l' h1 h2 h3 h4
    have hx : x ∈ l' := h3 x (List.mem_cons_self)
    have e := List.perm_cons_erase hx
    refine .trans (.cons x (ih (List.nodup_cons.1 h1).2 (h2.erase x) (fun y hy => ?_) ?_)) e.symm
    · have hne : y ≠ x := fun e => (List.nodup_cons.1 h1).1 (e ▸ hy)
      exact (List.mem_erase_of_ne hne).2 (h3 y (List.mem_cons_of_mem _ hy))
    · have := e.length_eq
      simp only [List.length_cons] at this h4
      omega
/-- the sign of a parity -/
def sg (n : Nat) : Int := if n % 2 = 0 then 1 else -1
theorem sg_add (x y : Nat) : sg (x + y) = sg x * sg y := by
  unfold sg
  rcases Nat.mod_two_eq_zero_or_one x with h1 | h1 <;> rcases Nat.mod_two_eq_zero_or_one y with h2 | h2 <;> simp [Nat.add_mod, h1, h2]
theorem sg_congr {x y : Nat} (h : x % 2 = y % 2) : sg x = sg y := by unfold sg; rw [h]
theorem sg_cases (x : Nat) : sg x = 1 ∨ sg x = -1 := by unfold sg; split <;> simp
theorem sg_sq (x : Nat) : sg x * sg x = 1 := by rcases sg_cases x with h | h <;> rw [h] <;> rfl
theorem dvd_mul_sub {p x y u v : Int} (h1 : p ∣ x - y) (h2 : p ∣ u - v) : p ∣ x * u - y * v := by
  have e : x * u - y * v = x * (u - v) + (x - y) * v := by rw [Int.mul_sub, Int.sub_mul]; omega
  rw [e]; exact Int.dvd_add (Int.dvd_mul_of_dvd_right h2) (Int.dvd_mul_of_dvd_left h1)
section gauss
variable {p m a : Nat}
def fs (p m a k : Nat) : Nat := if a * k % p ≤ m then a * k % p else p - a * k % p
def fl (p m a k : Nat) : Nat := if a * k % p ≤ m then 0 else 1
def L (m : Nat) : List Nat := List.range' 1 m
theorem mem_L {k : Nat} : k ∈ L m ↔ 1 ≤ k ∧ k ≤ m := by unfold L; rw [List.mem_range'_1]; omega
theorem len_L : (L m).length = m := List.length_range'
theorem nodup_L : (L m).Nodup := List.nodup_range'
theorem not_dvd (hp : Prime p) (h : ¬ p ∣ a) {k : Nat} (h1 : 1 ≤ k) (h2 : k < p) : ¬ p ∣ a * k := fun hd => by
  rcases hp.dvd_mul hd with h3 | h3
  · exact h h3
  · have := Nat.le_of_dvd h1 h3; omega
theorem fs_mem (hp : Prime p) (e : p = 2 * m + 1) (h : ¬ p ∣ a) {k : Nat} (hk : k ∈ L m) : fs p m a k ∈ L m := by
  obtain ⟨k1, k2⟩ := mem_L.1 hk
  have h1 : a * k % p ≠ 0 := fun hz => not_dvd hp h k1 (by omega) (Nat.dvd_of_mod_eq_zero hz)
  have h2 : a * k % p < p := Nat.mod_lt _ (by omega)
  rw [mem_L]
  unfold fs; split <;> omega
theorem inj1 (hp : Prime p) (h : ¬ p ∣ a) {k j : Nat} (hk : k < p) (hkj : k ≤ j) (hj : j < p) (e : a * k % p = a * j % p) : k = j := by
  have h1 : (a * j - a * k) % p = 0 := Nat.sub_mod_eq_zero_of_mod_eq e.symm
  rw [← Nat.mul_sub] at h1
  rcases Nat.eq_zero_or_pos (j - k) with h2 | h2
  · omega
  · exact absurd (Nat.dvd_of_mod_eq_zero h1) (not_dvd hp h h2 (by omega))
theorem inj2 (hp : Prime p) (h : ¬ p ∣ a) {k j : Nat} (hk : 1 ≤ k) (hs : k + j < p) (e : a * k % p + a * j % p = p) : False := by
  have h1 : (a * k + a * j) % p = 0 := by rw [Nat.add_mod, e, Nat.mod_self]
  rw [← Nat.mul_add] at h1
  exact not_dvd hp h (by omega) hs (Nat.dvd_of_mod_eq_zero h1)
theorem fs_inj (hp : Prime p) (e : p = 2 * m + 1) (h : ¬ p ∣ a) {k j : Nat} (hk : k ∈ L m) (hj : j ∈ L m) (he : fs p m a k = fs p m a j) : k = j := by
  obtain ⟨k1, k2⟩ := mem_L.1 hk
  obtain ⟨j1, j2⟩ := mem_L.1 hj
  have hx : a * k % p < p := Nat.mod_lt _ (by omega)
  have hy : a * j % p < p := Nat.mod_lt _ (by omega)
  have same : a * k % p = a * j % p → k = j := fun he => by
    rcases Nat.le_total k j with h3 | h3
    · exact inj1 hp h (by omega) h3 (by omega) he
    · exact (inj1 hp h (by omega) h3 (by omega) he.symm).symm
  unfold fs at he
  split at he <;> split at he
  · exact same he
  · exact (inj2 hp h k1 (by omega) (show a * k % p + a * j % p = p by omega)).elim
  · exact (inj2 hp h k1 (by omega) (show a * k % p + a * j % p = p by omega)).elim
  · exact same (by omega)
theorem fs_perm (hp : Prime p) (e : p = 2 * m + 1) (h : ¬ p ∣ a) : ((L m).map (fs p m a)).Perm (L m) := by
  refine perm_of ?_ nodup_L ?_ ?_
  · unfold List.Nodup
    rw [List.pairwise_map]
    exact (nodup_L (m := m)).imp_of_mem fun hx hy hne he => hne (fs_inj hp e h hx hy he)
  · intro x hx
    obtain ⟨k, hk, rfl⟩ := List.mem_map.1 hx
    exact fs_mem hp e h hk
  · rw [List.length_map]
theorem one_step (e : p = 2 * m + 1) (k : Nat) : (p : Int) ∣ (a : Int) * k - sg (fl p m a k) * fs p m a k := by
  have h1 : a * k % p < p := Nat.mod_lt _ (by omega)
  have h2 : a * k = p * (a * k / p) + a * k % p := (Nat.div_add_mod _ _).symm
  have h3 : (a : Int) * k = (p : Int) * ((a * k / p : Nat) : Int) + ((a * k % p : Nat) : Int) := by exact_mod_cast h2
  unfold fl fs
  split
  · rw [show sg 0 = 1 from rfl, Int.one_mul, h3]
    exact ⟨((a * k / p : Nat) : Int), by omega⟩
  · rw [show sg 1 = -1 from rfl, h3]
    refine ⟨((a * k / p : Nat) : Int) + 1, ?_⟩
    rw [Int.mul_add]
    omega
theorem gauss_list (e : p = 2 * m + 1) : ∀ l : List Nat, (p : Int) ∣ (a : Int) ^ l.length * (pr l : Int) - sg (sm (l.map (fl p m a))) * (pr (l.map (fs p m a)) : Int)
  | [] => by
    show (p : Int) ∣ (a : Int) ^ 0 * ((1 : Nat) : Int) - sg 0 * ((1 : Nat) : Int)
    rw [Int.pow_zero]; exact ⟨0, by rw [Int.mul_zero]; rfl⟩
  | k :: t => by
    have h := dvd_mul_sub (one_step (a := a) e k) (gauss_list e t)
    show (p : Int) ∣ (a : Int) ^ (t.length + 1) * ((k * pr t : Nat) : Int) - sg (fl p m a k + sm (t.map (fl p m a))) * ((fs p m a k * pr (t.map (fs p m a)) : Nat) : Int)
    have e1 : (a : Int) ^ (t.length + 1) * ((k * pr t : Nat) : Int) = (a : Int) * k * ((a : Int) ^ t.length * (pr t : Int)) := by
      rw [Int.pow_succ, Int.natCast_mul]; ac_rfl
    have e2 : sg (fl p m a k + sm (t.map (fl p m a))) * ((fs p m a k * pr (t.map (fs p m a)) : Nat) : Int) = sg (fl p m a k) * fs p m a k * (sg (sm (t.map (fl p m a))) * (pr (t.map (fs p m a)) : Int)) := by
      rw [sg_add, Int.natCast_mul]; ac_rfl
    rw [e1, e2]; exact h
theorem not_dvd_pr (hp : Prime p) : ∀ l : List Nat, (∀ k ∈ l, 1 ≤ k ∧ k < p) → ¬ p ∣ pr l
  | [], _, h => by
    have h1 : p ≤ 1 := Nat.le_of_dvd (by decide) h
    have := hp.1
    omega
  | k :: t, hl, h => by
    rcases hp.dvd_mul h with h1 | h1
    · obtain ⟨h2, h3⟩ := hl k List.mem_cons_self
      have := Nat.le_of_dvd h2 h1; omega
    · exact not_dvd_pr hp t (fun k hk => hl k (List.mem_cons_of_mem _ hk)) h1
theorem int_dvd_mul (hp : Prime p) {x y : Int} (h : (p : Int) ∣ x * y) : (p : Int) ∣ x ∨ (p : Int) ∣ y := by
  rw [← Int.natAbs_dvd_natAbs, Int.natAbs_mul, Int.natAbs_natCast] at h
  rcases hp.dvd_mul h with h1 | h1
  · exact .inl (Int.natAbs_dvd_natAbs.1 (by rw [Int.natAbs_natCast]; exact h1))
  · exact .inr (Int.natAbs_dvd_natAbs.1 (by rw [Int.natAbs_natCast]; exact h1))
/-- the number of the residues above the half -/
def mu (p m a : Nat) : Nat := sm ((L m).map (fl p m a))
/-- Gauss's lemma -/
theorem gauss (hp : Prime p) (e : p = 2 * m + 1) (h : ¬ p ∣ a) : (p : Int) ∣ (a : Int) ^ m - sg (mu p m a) := by
  have h1 := gauss_list (a := a) e (L m)
  rw [pr_perm (fs_perm hp e h), len_L, ← Int.sub_mul] at h1
  rcases int_dvd_mul hp h1 with h2 | h2
  · exact h2
  · exact absurd (Int.natCast_dvd_natCast.1 h2) (not_dvd_pr hp _ fun k hk => by have := mem_L.1 hk; omega)
theorem par_list (e : p = 2 * m + 1) : ∀ l : List Nat, ((a + 1) * sm l + sm l + sm (l.map (fun k => a * k / p)) + sm (l.map (fs p m a)) + sm (l.map (fl p m a))) % 2 = 0
  | [] => by show ((a + 1) * 0 + 0 + 0 + 0 + 0) % 2 = 0; omega
  | k :: t => by
    have ih := par_list e t
    show ((a + 1) * (k + sm t) + (k + sm t) + (a * k / p + sm (t.map (fun k => a * k / p))) + (fs p m a k + sm (t.map (fs p m a))) + (fl p m a k + sm (t.map (fl p m a)))) % 2 = 0
    have h1 : a * k % p < p := Nat.mod_lt _ (by omega)
    have h2 : a * k = p * (a * k / p) + a * k % p := (Nat.div_add_mod _ _).symm
    have h3 : p * (a * k / p) = 2 * (m * (a * k / p)) + a * k / p := by
      rw [show p * (a * k / p) = (2 * m + 1) * (a * k / p) by rw [← e], Nat.add_mul, Nat.one_mul, Nat.mul_assoc]
    have h4 : (a + 1) * (k + sm t) = a * k + k + (a + 1) * sm t := by rw [Nat.mul_add, Nat.add_mul, Nat.one_mul]
    have h5 : (fs p m a k + fl p m a k + a * k % p) % 2 = 0 := by
      unfold fs fl; split <;> omega
    rw [h4]
    omega
theorem parity (hp : Prime p) (e : p = 2 * m + 1) (h : ¬ p ∣ a) : ((a + 1) * sm (L m) + sm ((L m).map (fun k => a * k / p)) + mu p m a) % 2 = 0 := by
  have h1 := par_list (a := a) e (L m)
  rw [sm_perm (fs_perm hp e h)] at h1
  unfold mu; omega
theorem sm_L : ∀ m : Nat, 2 * sm (L m) = m * (m + 1)
  | 0 => rfl
  | m + 1 => by
    have h : L (m + 1) = L m ++ [1 + m] := List.range'_1_concat
    have ih := sm_L m
    rw [h, sm_app]
    show 2 * (sm (L m) + (1 + m + 0)) = (m + 1) * (m + 1 + 1)
    have e1 : (m + 1) * (m + 1 + 1) = m * (m + 1) + 2 * (m + 1) := by rw [← Nat.add_mul, Nat.mul_comm, Nat.add_comm m 2, show 2 + m = m + 1 + 1 by omega]
    rw [e1]; omega
/-- 2 -/
theorem mu_two (hp : Prime p) (e : p = 2 * m + 1) : sg (mu p m 2) = if p % 8 = 1 ∨ p % 8 = 7 then 1 else -1 := by
  have hm : 1 ≤ m := by have := hp.1; omega
  have h2 : ¬ p ∣ 2 := fun hd => by have := Nat.le_of_dvd (by decide) hd; omega
  have h := parity hp e h2
  have hq : ∀ l : List Nat, (∀ k ∈ l, k ≤ m) → sm (l.map (fun k => 2 * k / p)) = 0 := by
    intro l
    induction l with
    | nil => intro _; rfl
    | cons k t ih =>
      intro hl
      show 2 * k / p + sm (t.map (fun k => 2 * k / p)) = 0
      have hk := hl k List.mem_cons_self
      rw [ih fun j hj => hl j (List.mem_cons_of_mem _ hj), Nat.div_eq_of_lt (by omega)]
  rw [hq _ fun k hk => (mem_L.1 hk).2] at h
  have hs := sm_L m
  have h8 : m % 4 = 0 ∨ m % 4 = 1 ∨ m % 4 = 2 ∨ m % 4 = 3 := by omega
  have hs2 : sm (L m) % 2 = if m % 4 = 0 ∨ m % 4 = 3 then 0 else 1 := by
    obtain ⟨q, hq⟩ : ∃ q, m = 4 * q + m % 4 := ⟨m / 4, by omega⟩
    have e3 : ∀ r, m = 4 * q + r → m * (m + 1) = 4 * (4 * (q * q) + 2 * (q * r) + q) + r * (r + 1) := by
      intro r hr
      rw [hr]
      simp only [Nat.mul_add, Nat.add_mul, Nat.mul_one]
      have a1 : 4 * q * (4 * q) = 4 * (4 * (q * q)) := by rw [Nat.mul_assoc, Nat.mul_left_comm q 4 q]
      have a2 : 4 * q * r = 4 * (q * r) := Nat.mul_assoc _ _ _
      have a3 : r * (4 * q) = 4 * (q * r) := by rw [Nat.mul_left_comm, Nat.mul_comm r q]
      omega
    rcases h8 with h8 | h8 | h8 | h8 <;> rw [h8] at hq <;> have e4 := e3 _ hq <;> rw [e4] at hs <;> rw [h8] <;> simp <;> omega
  have hp8 : p % 8 = (2 * (m % 4) + 1) % 8 := by omega
  rcases h8 with h8 | h8 | h8 | h8 <;> rw [h8] at hp8 hs2 <;> simp at hs2 hp8 <;> rw [hp8] <;> simp <;> unfold sg <;> split <;> first | rfl | omega
end gauss
end Go.AM.QR
