/- The classes of forms: plain arithmetic. No condition. -/
import Derived.Test.YtemmnocgkgoegaaQrm
import Derived.Test.YtemmnocgkgoegaaFrmc
import Derived.Test.YtemmnocgkgoegaaEqvc
import Derived.Test.YtemmnocgkgoegaaRepm
set_option linter.unusedVariables false
set_option maxRecDepth 100000
namespace Go.AM.QR
/-- a polynomial with the leading coefficient 1 -/
def ev1 : List Int → Int → Int
  | [], _ => 1
  | c :: l, x => c + x * ev1 l x
def dv1 : List Int → Int → List Int
  | [], _ => []
  | [_], _ => []
  | _ :: c :: l, r => ev1 (c :: l) r :: dv1 (c :: l) r
theorem dv1_len : ∀ (c : Int) (l : List Int) (r : Int), (dv1 (c :: l) r).length = l.length
  | _, [], _ => rfl
  | _, c :: l, r => by
    show (dv1 (c :: l) r).length + 1 = l.length + 1
    rw [dv1_len c l r]
theorem dv1_ok : ∀ (c : Int) (l : List Int) (x r : Int), ev1 (c :: l) x - ev1 (c :: l) r = (x - r) * ev1 (dv1 (c :: l) r) x
  | c, [], x, r => by
    show c + x * 1 - (c + r * 1) = (x - r) * 1
    omega
  | c, c' :: l, x, r => by
    have h := dv1_ok c' l x r
    show c + x * ev1 (c' :: l) x - (c + r * ev1 (c' :: l) r) = (x - r) * (ev1 (c' :: l) r + x * ev1 (dv1 (c' :: l) r) x)
    rw [Int.mul_add, ← Int.mul_assoc, Int.mul_comm (x - r) x, Int.mul_assoc, ← h, Int.mul_sub, Int.sub_mul]
    omega
/-- Lagrange -/
theorem lagrange {p : Nat} (hp : Prime p) : ∀ (n : Nat) (l : List Int), l.length = n → ∀ rs : List Int, (∀ r ∈ rs, (p : Int) ∣ ev1 l r) → rs.Pairwise (fun r s => ¬ (p : Int) ∣ s - r) → rs.length ≤ n
  | _, _, _, [], _, _ => Nat.zero_le _
  | 0, [], _, r :: t, h, _ => by
    have h1 : (p : Int) ∣ 1 := h r List.mem_cons_self
    have h2 := Int.le_of_dvd (by decide) h1
    have := hp.1; omega
  | 0, _ :: _, e, _ :: _, _, _ => nomatch e
  | n + 1, [], e, _ :: _, _, _ => nomatch e
  | n + 1, c :: l, e, r :: t, h, hw => by
    have hw := List.pairwise_cons.1 hw
    have h1 := lagrange hp n (dv1 (c :: l) r) (by rw [dv1_len]; exact Nat.succ.inj e) t (fun s hs => ?_) hw.2
    · show t.length + 1 ≤ n + 1; omega
    · have h2 : (p : Int) ∣ ev1 (c :: l) s - ev1 (c :: l) r := Int.dvd_sub (h s (List.mem_cons_of_mem _ hs)) (h r List.mem_cons_self)
      rw [dv1_ok] at h2
      rcases int_dvd_mul hp h2 with h3 | h3
      · exact absurd h3 (hw.1 s hs)
      · exact h3
theorem ev1_rep (x : Int) : ∀ k : Nat, ev1 (List.replicate k 0) x = x ^ k
  | 0 => by rw [Int.pow_zero]; rfl
  | k + 1 => by
    show 0 + x * ev1 (List.replicate k 0) x = x ^ (k + 1)
    rw [ev1_rep x k, Int.pow_succ, Int.mul_comm]; omega
theorem fermat {p : Nat} (h : OddP p) {a : Int} (hd : ¬ (p : Int) ∣ a) : (p : Int) ∣ (a * a) ^ ((p - 1) / 2) - 1 := by
  have h1 := gauss_int h hd
  have h2 := dvd_mul_sub h1 h1
  rw [sg_sq, ← Int.mul_pow] at h2
  exact h2
theorem nd_of {p : Nat} {k : Int} (h1 : 0 < k) (h2 : k < (p : Int)) : ¬ (p : Int) ∣ k := fun h => by
  have := Int.le_of_dvd h1 h; omega
theorem euler {p : Nat} (h : OddP p) {d : Int} (hd : (p : Int) ∣ d ^ ((p - 1) / 2) - 1) : ∃ b : Nat, 1 ≤ b ∧ b < p ∧ (p : Int) ∣ (b : Int) * b - d := by
  refine Classical.byContradiction fun hn => ?_
  have h3 := h.three
  have hh := h.half
  generalize hm : (p - 1) / 2 = m at hd hh
  obtain ⟨k, rfl⟩ : ∃ k, m = k + 1 := ⟨m - 1, by omega⟩
  have hl := lagrange h.1 (k + 1) (-1 :: List.replicate k 0) (by simp) (d :: (L (k + 1)).map fun b : Nat => (b : Int) * b) ?_ ?_
  · simp only [List.length_cons, List.length_map, len_L] at hl; omega
  · have e : ∀ x : Int, ev1 (-1 :: List.replicate k 0) x = x ^ (k + 1) - 1 := fun x => by
      show -1 + x * ev1 (List.replicate k 0) x = _
      rw [ev1_rep, Int.pow_succ, Int.mul_comm]; omega
    intro r hr
    rw [e]
    rcases List.mem_cons.1 hr with rfl | hr
    · exact hd
    · obtain ⟨b, hb, rfl⟩ := List.mem_map.1 hr
      rw [mem_L] at hb
      have := fermat h (a := (b : Int)) (nd_of (by omega) (by omega))
      rw [hm] at this
      exact this
  · refine List.pairwise_cons.2 ⟨fun s hs hx => ?_, ?_⟩
    · obtain ⟨b, hb, rfl⟩ := List.mem_map.1 hs
      rw [mem_L] at hb
      exact hn ⟨b, hb.1, by omega, hx⟩
    · rw [List.pairwise_map]
      have hp : (L (k + 1)).Pairwise (· < ·) := List.pairwise_lt_range'
      refine (List.Pairwise.and_mem.1 hp).imp fun {a b} hab hx => ?_
      obtain ⟨ha, hb, hlt⟩ := hab
      rw [mem_L] at ha hb
      have e : (b : Int) * b - (a : Int) * a = ((b : Int) - a) * ((b : Int) + a) := by
        rw [Int.sub_mul, Int.mul_add, Int.mul_add, Int.mul_comm (a : Int) b]; omega
      rw [e] at hx
      rcases int_dvd_mul h.1 hx with h4 | h4
      · exact nd_of (by omega) (by omega) h4
      · exact nd_of (by omega) (by omega) h4
theorem K_prime {d : Int} {p : Nat} (hp : Prime p) : K d (p : Int) = kp d p := by
  have h1 := hp.1
  rw [K_ok (l := [p]) (by omega) (fun q hq => by rw [List.mem_singleton] at hq; rw [hq]; exact hp) (by show p * 1 = _; omega), sn_pos (by omega), Int.one_mul]
  show kp d p * 1 = _
  rw [Int.mul_one]
theorem four_mul {p : Nat} (ho : p % 2 = 1) {x : Int} (h4 : x % 4 = 0) (hp : (p : Int) ∣ x) : x % (4 * (p : Int)) = 0 := by
  have h1 : 4 ∣ x.natAbs := by omega
  have h2 : p ∣ x.natAbs := by rw [← Int.natAbs_dvd_natAbs, Int.natAbs_natCast] at hp; exact hp
  have hc : Nat.Coprime 4 p := by
    have h5 : Nat.gcd 4 p ∣ 4 := Nat.gcd_dvd_left 4 p
    have h6 : Nat.gcd 4 p ∣ p := Nat.gcd_dvd_right 4 p
    have h7 : Nat.gcd 4 p ≤ 4 := Nat.le_of_dvd (by decide) h5
    have h8 : Nat.gcd 4 p = 0 ∨ Nat.gcd 4 p = 1 ∨ Nat.gcd 4 p = 2 ∨ Nat.gcd 4 p = 3 ∨ Nat.gcd 4 p = 4 := by omega
    rcases h8 with e | e | e | e | e
    · rw [e] at h5; obtain ⟨c, hc⟩ := h5; omega
    · exact e
    · rw [e] at h6; obtain ⟨c, hc⟩ := h6; omega
    · rw [e] at h5; obtain ⟨c, hc⟩ := h5; omega
    · rw [e] at h6; obtain ⟨c, hc⟩ := h6; omega
  have h3 : 4 * p ∣ x.natAbs := Nat.Coprime.mul_dvd_of_dvd_of_dvd hc h1 h2
  have h5 : ((4 * p : Nat) : Int) ∣ x := by rw [← Int.natAbs_dvd_natAbs, Int.natAbs_natCast]; exact h3
  have h6 := Int.emod_eq_zero_of_dvd h5
  rwa [Int.natCast_mul] at h6
theorem sq4 (b : Int) : b * b % 4 = b % 2 := by
  have h : b * b % 4 = (b % 4) * (b % 4) % 4 := Int.mul_emod _ _ _
  have h4 : b % 4 = 0 ∨ b % 4 = 1 ∨ b % 4 = 2 ∨ b % 4 = 3 := by omega
  rcases h4 with e | e | e | e <;> rw [h, e] <;> omega
/-- a discriminant is a square modulo 4 p exactly if its symbol is not -1 -/
theorem root_iff {p : Nat} (hp : Prime p) {d : Int} (hd : d % 4 = 0 ∨ d % 4 = 1) : (∃ b : Nat, b ≤ p ∧ ((b : Int) * b - d) % (4 * (p : Int)) = 0) ↔ K d (p : Int) ≠ -1 := by
  rw [K_prime hp]
  by_cases h2 : p = 2
  · subst h2
    have e : kp d 2 = if d % 8 = 1 then 1 else if d % 8 = 5 then -1 else 0 := if_neg (by decide)
    rw [e]
    constructor
    · rintro ⟨b, h1, h3⟩
      have hb : b = 0 ∨ b = 1 ∨ b = 2 := by omega
      rw [if_neg (c := d % 8 = 5) (by rcases hb with rfl | rfl | rfl <;> omega)]
      split <;> decide
    · intro h
      have h5 : d % 8 ≠ 5 := fun h5 => h (by rw [if_neg (by omega), if_pos h5])
      have h8 : d % 8 = 0 ∨ d % 8 = 4 ∨ d % 8 = 1 := by omega
      rcases h8 with h8 | h8 | h8
      · exact ⟨0, by omega, by omega⟩
      · exact ⟨2, by omega, by omega⟩
      · exact ⟨1, by omega, by omega⟩
  · have ho : OddP p := ⟨hp, by
      rcases Nat.mod_two_eq_zero_or_one p with e | e
      · rcases hp.2 2 (Nat.dvd_of_mod_eq_zero e) with h3 | h3 <;> omega
      · exact e⟩
    have h3 := ho.three
    have ho2 := ho.2
    have e : kp d p = leg d p := if_pos (by omega)
    rw [e]
    constructor
    · rintro ⟨b, h1, h4⟩
      have h5 : (p : Int) ∣ (b : Int) * b - d := Int.dvd_trans (Int.dvd_mul_left 4 (p : Int)) (Int.dvd_of_emod_eq_zero h4)
      rw [← leg_congr ho h5, leg_mul ho]
      rcases (leg_spec ho (b : Int)).1 with e | e | e <;> rw [e] <;> decide
    · intro h
      have fin : ∀ b : Nat, b ≤ p → (p : Int) ∣ (b : Int) * b - d → ((b : Int) * b - d) % 4 = 0 → ∃ b : Nat, b ≤ p ∧ ((b : Int) * b - d) % (4 * (p : Int)) = 0 := fun b h1 h2 h4 => ⟨b, h1, four_mul ho2 h4 h2⟩
      rcases (leg_spec ho d).1 with e | e | e
      · exact absurd e h
      · have hd0 := (leg_eq_zero ho).1 e
        rcases hd with hd | hd
        · refine fin 0 (by omega) ?_ (by omega)
          obtain ⟨c, hc⟩ := hd0
          exact ⟨-c, by rw [Int.mul_neg, ← hc]; omega⟩
        · refine fin p (Nat.le_refl _) ?_ (by have := sq4 (p : Int); omega)
          exact Int.dvd_sub (Int.dvd_mul_right _ _) hd0
      · have hs := (leg_spec ho d).2
        rw [e] at hs
        obtain ⟨b, h1, h4, h5⟩ := euler ho hs
        by_cases hpar : (b : Int) % 2 = d % 2
        · exact fin b (by omega) h5 (by have := sq4 (b : Int); omega)
        · refine fin (p - b) (by omega) ?_ ?_
          · rw [Int.ofNat_sub (by omega)]
            have e2 : ((p : Int) - b) * ((p : Int) - b) - d = (p : Int) * ((p : Int) - b - b) + ((b : Int) * b - d) := by
              rw [Int.sub_mul, Int.mul_sub, Int.mul_sub, Int.mul_sub, Int.mul_sub, Int.mul_comm (b : Int) p]; omega
            rw [e2]
            exact Int.dvd_add (Int.dvd_mul_right _ _) h5
          · have := sq4 ((p - b : Nat) : Int); omega
end Go.AM.QR
namespace Go.AM
open Go
/-- squarefree: no square divides -/
theorem sqO_free : ∀ (f k : Nat) (n : Int) (s : Nat), 2 ≤ k → 1 ≤ s → (sqO f k n s).2 = 1 → ∀ j, k ≤ j → j < k + f → j * j ≤ n.natAbs → n.tmod ((j * j : Nat) : Int) ≠ 0
  | 0, _, _, _, _, _, _, j, h1, h2, _ => by omega
  | f + 1, k, n, s, hk, hs, h, j, h1, h2, h3 => by
    unfold sqO at h
    have hkj : k * k ≤ j * j := Nat.mul_le_mul h1 h1
    rw [if_pos (by omega)] at h
    have h0 := sqI_le hk 20 n s
    obtain ⟨g1, g2⟩ := sqO_one f (k + 1) _ _ (by omega) (by omega) h
    obtain ⟨g3, g4, g5⟩ := sqI_one hk 20 n s hs g1
    rcases Nat.lt_or_ge k j with e | e
    · have h6 := sqO_free f (k + 1) _ _ (by omega) (by omega) h j (by omega) (by omega)
      rw [g4] at h6
      exact h6 h3
    · have : j = k := by omega
      subst this
      exact g5 (by omega)
theorem sq_free {n : Int} (h : (sq n).2 = 1) (h1 : -100000 ≤ n) (h2 : n ≤ 100000) {j : Nat} (hj : 2 ≤ j) (hj2 : j ≤ 400) (hd : ((j : Int) * j) ∣ n) (h0 : n ≠ 0) : False := by
  have h3 : j * j ∣ n.natAbs := by
    rw [← Int.natAbs_dvd_natAbs, Int.natAbs_mul, Int.natAbs_natCast] at hd; exact hd
  have h4 := Nat.le_of_dvd (by omega) h3
  refine sqO_free 400 2 n 1 (Nat.le_refl _) (Nat.le_refl _) h j hj (by omega) h4 ?_
  rw [Int.natCast_mul]
  exact Int.tmod_eq_zero_of_dvd hd
/-- forms with a fundamental discriminant are primitive -/
theorem prim_of {d a b c : Int} (hf : fundP d) (h1 : -100000 ≤ d) (h2 : d ≤ 100000) (he : b * b - 4 * (a * c) = d) {g : Nat} (g0 : 1 ≤ g) (g2 : g ≤ 400) (ga : (g : Int) ∣ a) (gb : (g : Int) ∣ b) (gc : (g : Int) ∣ c) : g = 1 := by
  obtain ⟨a', rfl⟩ := ga
  obtain ⟨b', rfl⟩ := gb
  obtain ⟨c', rfl⟩ := gc
  have e : ((g : Int) * g) * (b' * b' - 4 * (a' * c')) = d := by rw [← he]; grind
  generalize hD : b' * b' - 4 * (a' * c') = D at e
  have hD4 : D % 4 = 0 ∨ D % 4 = 1 := by
    have := QR.sq4 b'
    omega
  obtain ⟨n0, n1, hs | ⟨hs1, hs2, hs3⟩⟩ := hf
  · refine Classical.byContradiction fun hg => sq_free hs.2 h1 h2 (j := g) (by omega) g2 ⟨D, e.symm⟩ n0
  · have h4 : d = 4 * (d / 4) := by omega
    generalize hm : d / 4 = m at hs2 hs3 h4
    rcases Nat.mod_two_eq_zero_or_one g with hg | hg
    · obtain ⟨t, rfl⟩ : ∃ t, g = 2 * t := ⟨g / 2, by omega⟩
      have e2 : ((t : Int) * t) * D = m := by
        have : 4 * (((t : Int) * t) * D) = 4 * m := by
          rw [← h4, ← e, Int.natCast_mul]
          show 4 * ((t : Int) * t * D) = 2 * (t : Int) * (2 * (t : Int)) * D
          grind
        omega
      by_cases ht : t = 1
      · subst ht
        rw [show ((1 : Nat) : Int) * ((1 : Nat) : Int) = 1 from rfl, Int.one_mul] at e2
        omega
      · exact absurd (sq_free hs2 (by omega) (by omega) (j := t) (by omega) (by omega) ⟨D, e2.symm⟩ (by omega)) id
    · refine Classical.byContradiction fun hgn => sq_free hs2 (by omega) (by omega) (j := g) (by omega) g2 ?_ (by omega)
      have h5 : g * g ∣ 4 * m.natAbs := by
        have h6 : g * g * D.natAbs = d.natAbs := by
          rw [← e, Int.natAbs_mul, Int.natAbs_mul, Int.natAbs_natCast]
        exact ⟨D.natAbs, by omega⟩
      have hc : Nat.Coprime (g * g) 4 := by
        have c2 : Nat.Coprime g 2 := by
          have h7 : Nat.gcd g 2 ∣ 2 := Nat.gcd_dvd_right g 2
          have h8 : Nat.gcd g 2 ∣ g := Nat.gcd_dvd_left g 2
          have h9 : Nat.gcd g 2 ≤ 2 := Nat.le_of_dvd (by decide) h7
          have h10 : Nat.gcd g 2 = 0 ∨ Nat.gcd g 2 = 1 ∨ Nat.gcd g 2 = 2 := by omega
          rcases h10 with x | x | x
          · rw [x] at h7; obtain ⟨y, hy⟩ := h7; omega
          · exact x
          · rw [x] at h8; obtain ⟨y, hy⟩ := h8; omega
        have c4 : Nat.Coprime g (2 * 2) := Nat.Coprime.mul_right c2 c2
        exact Nat.Coprime.mul_left c4 c4
      have h7 : g * g ∣ m.natAbs := hc.dvd_of_dvd_mul_left h5
      rw [← Int.natAbs_dvd_natAbs, Int.natAbs_mul, Int.natAbs_natCast]
      exact h7
/-- members of the list -/
theorem rowF_mono {d : Int} {a : Nat} {g : F3} : ∀ (f : Nat) (b : Int) (L : List F3), g ∈ L → g ∈ rowF d a f b L
  | 0, _, _, h => h
  | f + 1, b, L, h => rowF_mono f (b + 1) _ (List.mem_append_left _ h)
theorem rowF_mem {d : Int} {a : Nat} {b : Int} {g : F3} (hg : g ∈ itemL d a b) : ∀ (f : Nat) (b0 : Int) (L : List F3), b0 ≤ b → b < b0 + f → g ∈ rowF d a f b0 L
  | 0, b0, L, h1, h2 => by omega
  | f + 1, b0, L, h1, h2 => by
    rcases Int.lt_or_le b0 b with h3 | h3
    · exact rowF_mem hg f (b0 + 1) _ (by omega) (by omega)
    · have : b0 = b := by omega
      subst this
      exact rowF_mono f _ _ (List.mem_append_right _ hg)
theorem lstF_mono {d : Int} {g : F3} : ∀ (f a : Nat) (L : List F3), g ∈ L → g ∈ lstF d f a L
  | 0, _, _, h => h
  | f + 1, a, L, h => by
    unfold lstF; split
    · exact lstF_mono f (a + 1) _ (rowF_mono _ _ _ h)
    · exact h
theorem lstF_mem {d : Int} {a : Nat} {b : Int} {g : F3} (hg : g ∈ itemL d a b) (h1 : -(a : Int) ≤ b) (h2 : b ≤ a) (h3 : 3 * a * a ≤ (-d).toNat) : ∀ (f a0 : Nat) (L : List F3), a0 ≤ a → a < a0 + f → g ∈ lstF d f a0 L
  | 0, a0, L, h4, h5 => by omega
  | f + 1, a0, L, h4, h5 => by
    have h6 : 3 * a0 * a0 ≤ 3 * a * a := Nat.mul_le_mul (Nat.mul_le_mul_left 3 h4) h4
    unfold lstF
    rw [if_pos (by omega)]
    rcases Nat.lt_or_ge a0 a with h7 | h7
    · exact lstF_mem hg h1 h2 h3 f (a0 + 1) _ (by omega) (by omega)
    · have : a0 = a := by omega
      subst this
      exact lstF_mono f _ _ (rowF_mem hg _ _ _ h1 (by omega))
theorem abs_sq {a b : Int} (h : (b.natAbs : Int) ≤ a) : b * b ≤ a * a := by
  have h1 : b.natAbs * b.natAbs ≤ a.natAbs * a.natAbs := Nat.mul_le_mul (by omega) (by omega)
  have h2 : ((b.natAbs * b.natAbs : Nat) : Int) = b * b := Int.natAbs_mul_self
  have h3 : ((a.natAbs * a.natAbs : Nat) : Int) = a * a := Int.natAbs_mul_self
  omega
/-- a reduced form with a fundamental discriminant is in the list -/
theorem mem_formL {d a b c : Int} (hf : fundP d) (d1 : -10000 ≤ d) (d2 : d < 0) (ha : 1 ≤ a) (hr : isRed (a, b, c)) (he : b * b - 4 * (a * c) = d) : (a, b, c) ∈ lstF d 60 1 [] := by
  have hr0 := hr
  obtain ⟨r1, r2, r3⟩ := hr
  dsimp only at r1 r2 r3
  have q1 := abs_sq r1
  have q2 : a * a ≤ a * c := Int.mul_le_mul_of_nonneg_left r2 (by omega)
  obtain ⟨n, rfl⟩ := Int.eq_ofNat_of_zero_le (show 0 ≤ a by omega)
  have q3 : (n : Int) * n = ((n * n : Nat) : Int) := (Int.natCast_mul n n).symm
  have q4 : 3 * n * n = 3 * (n * n) := Nat.mul_assoc 3 n n
  have q5 : 3 * (n * n) ≤ (-d).toNat := by rw [q3] at q1 q2; omega
  have hn : n ≤ 60 := by
    rcases Nat.lt_or_ge 60 n with h | h
    · have : 61 * 61 ≤ n * n := Nat.mul_le_mul h h
      omega
    · exact h
  have e4 : b * b - d = 4 * (n : Int) * c := by rw [Int.mul_assoc]; omega
  have hc : (b * b - d) / (4 * (n : Int)) = c := by rw [e4]; exact Int.mul_ediv_cancel_left _ (by omega)
  have hg1 : g3 (n : Int) b c = 1 := by
    have hg : g3 (n : Int) b c ∣ n := Nat.dvd_trans (Nat.gcd_dvd_left _ _) (Nat.gcd_dvd_left _ _)
    have hgb : g3 (n : Int) b c ∣ b.natAbs := Nat.dvd_trans (Nat.gcd_dvd_left _ _) (Nat.gcd_dvd_right _ _)
    have hgc : g3 (n : Int) b c ∣ c.natAbs := Nat.gcd_dvd_right _ _
    have hle := Nat.le_of_dvd (by omega) hg
    have hpos := Nat.pos_of_dvd_of_pos hg (by omega)
    generalize g3 (n : Int) b c = g at hg hgb hgc hle hpos ⊢
    refine prim_of hf (by omega) (by omega) he hpos (by omega) (Int.natCast_dvd_natCast.2 hg) ?_ ?_
    · exact Int.natAbs_dvd_natAbs.1 (by rw [Int.natAbs_natCast]; exact hgb)
    · exact Int.natAbs_dvd_natAbs.1 (by rw [Int.natAbs_natCast]; exact hgc)
  refine lstF_mem (a := n) (b := b) ?_ (by omega) (by omega) (by omega) 60 1 [] (by omega) (by omega)
  have hm : (b * b - d) % (4 * (n : Int)) = 0 := by rw [e4]; exact Int.mul_emod_right _ _
  unfold itemL
  rw [if_pos hm, hc, if_pos ⟨hr0, hg1⟩]
  exact List.mem_singleton.2 rfl
/-- a form takes the value n -/
def vals (f : F3) (n : Int) : Prop := ∃ u v : Int, f.1 * u * u + f.2.1 * u * v + f.2.2 * v * v = n
theorem vals_stp (f : F3) (n : Int) : vals (stp f) n ↔ vals f n := by
  obtain ⟨A, B, C⟩ := f
  have key : ∀ u v : Int, A * u * u + nB A B * u * v + nC A B C * v * v = A * (u + nk A B * v) * (u + nk A B * v) + B * (u + nk A B * v) * v + C * v * v := fun u v => by
    unfold nB nC; generalize nk A B = k; grind
  unfold stp vals
  dsimp only
  split
  · dsimp only
    constructor
    · rintro ⟨u, v, e⟩
      refine ⟨-v + nk A B * u, u, ?_⟩
      rw [← key (-v) u, ← e]; grind
    · rintro ⟨u, v, e⟩
      refine ⟨v, -(u - nk A B * v), ?_⟩
      rw [← e]
      have h := key (u - nk A B * v) v
      rw [Int.sub_add_cancel] at h
      rw [← h]; grind
  · dsimp only
    constructor
    · rintro ⟨u, v, e⟩
      exact ⟨u + nk A B * v, v, by rw [← key, e]⟩
    · rintro ⟨u, v, e⟩
      refine ⟨u - nk A B * v, v, ?_⟩
      rw [key, Int.sub_add_cancel, e]
theorem vals_itr (n : Int) : ∀ (m : Nat) (f : F3), vals (itr m f) n ↔ vals f n
  | 0, _ => Iff.rfl
  | m + 1, f => (vals_itr n m (stp f)).trans (vals_stp f n)
theorem vals_rd {f : F3} (h : VT f) (n : Int) : vals (rd f) n ↔ vals f n := by
  obtain ⟨m, h1, h2⟩ := reach h
  have e : rd f = itr m f := rdF_eq m f h h2 30 h1
  rw [e]; exact vals_itr n m f
/-- the least value of a reduced form is A: it is 1 exactly if the form takes the value 1 -/
theorem one_iff {f : F3} (h : VT f) (hr : isRed f) : f.1 = 1 ↔ vals f 1 := by
  obtain ⟨A, B, C⟩ := f
  have h : VF A B C := h
  obtain ⟨r1, r2, r3⟩ := hr
  dsimp only at r1 r2 r3
  have hA := h.a1
  constructor
  · intro e
    dsimp only at e
    exact ⟨1, 0, by dsimp only; rw [e]; omega⟩
  · rintro ⟨u, v, e⟩
    dsimp only at e
    show A = 1
    have e2 : (2 * A * u + B * v) * (2 * A * u + B * v) + (4 * (A * C) - B * B) * (v * v) = 4 * A := by
      have : (2 * A * u + B * v) * (2 * A * u + B * v) + (4 * (A * C) - B * B) * (v * v) = 4 * A * (A * u * u + B * u * v + C * v * v) := by grind
      rw [this, e, Int.mul_one]
    have q1 := abs_sq r1
    have q2 : A * A ≤ A * C := Int.mul_le_mul_of_nonneg_left r2 (by omega)
    by_cases hv : v = 0
    · subst hv
      have e3 : A * (u * u) = 1 := by rw [← e]; grind
      exact Int.eq_one_of_dvd_one (by omega) ⟨u * u, e3.symm⟩
    · have s1 : 1 ≤ v * v := by
        have h1 : ((v.natAbs * v.natAbs : Nat) : Int) = v * v := Int.natAbs_mul_self
        have h2 : 1 * 1 ≤ v.natAbs * v.natAbs := Nat.mul_le_mul (by omega) (by omega)
        omega
      have s2 : 0 ≤ (2 * A * u + B * v) * (2 * A * u + B * v) := by
        have h1 : (((2 * A * u + B * v).natAbs * (2 * A * u + B * v).natAbs : Nat) : Int) = (2 * A * u + B * v) * (2 * A * u + B * v) := Int.natAbs_mul_self
        omega
      have s3 : (4 * (A * C) - B * B) * 1 ≤ (4 * (A * C) - B * B) * (v * v) := Int.mul_le_mul_of_nonneg_left s1 (by have := h.d1; omega)
      rcases Int.lt_or_le 1 A with g | g
      · have : 2 * A ≤ A * A := Int.mul_le_mul_of_nonneg_right (by omega) (by omega)
        omega
      · omega
/-- the search finds numbers exactly if there are some -/
theorem repF_iff {m p : Nat} (hm : 1 ≤ m) (hp : p ≤ 1000) : ∀ (f x : Nat), x + f = 1000 → (repF m p f x ≠ none ↔ ∃ x' y : Nat, x ≤ x' ∧ x' * x' + m * (y * y) = 4 * p)
  | 0, x, hf => by
    refine ⟨fun h => absurd rfl h, ?_⟩
    rintro ⟨x', y, h1, h2⟩
    have : 1000 * 1000 ≤ x' * x' := Nat.mul_le_mul (by omega) (by omega)
    omega
  | f + 1, x, hf => by
    have ih := repF_iff hm hp f (x + 1) (by omega)
    unfold repF
    by_cases e : x * x ≤ 4 * p
    · rw [if_pos e]
      by_cases hh : (4 * p - x * x) % m = 0 ∧ rt ((4 * p - x * x) / m) * rt ((4 * p - x * x) / m) = (4 * p - x * x) / m
      · rw [if_pos hh]
        refine ⟨fun _ => ⟨x, rt ((4 * p - x * x) / m), Nat.le_refl _, ?_⟩, fun _ h => nomatch h⟩
        rw [hh.2]
        have := Nat.div_add_mod (4 * p - x * x) m
        omega
      · rw [if_neg hh, ih]
        constructor
        · rintro ⟨x', y, h1, h2⟩
          exact ⟨x', y, by omega, h2⟩
        · rintro ⟨x', y, h1, h2⟩
          rcases Nat.lt_or_ge x x' with h3 | h3
          · exact ⟨x', y, h3, h2⟩
          · have : x' = x := by omega
            subst this
            exfalso
            refine hh ?_
            have e2 : 4 * p - x' * x' = m * (y * y) := by omega
            have e3 : m * (y * y) / m = y * y := Nat.mul_div_cancel_left _ (by omega)
            have e4 : y * y ≤ m * (y * y) := Nat.le_mul_of_pos_left _ (by omega)
            rw [e2, e3, rt_sq (by omega)]
            exact ⟨Nat.mul_mod_right _ _, rfl⟩
    · rw [if_neg e]
      refine ⟨fun h => absurd rfl h, ?_⟩
      rintro ⟨x', y, h1, h2⟩
      have : x * x ≤ x' * x' := Nat.mul_le_mul h1 h1
      omega
/-- a form with the prime p as A takes the value 1 exactly if 4 p is x x + m y y -/
theorem vals_iff {p m : Nat} {b c : Int} (hp : QR.Prime p) (he : b * b + m = 4 * ((p : Int) * c)) : vals ((p : Int), b, c) 1 ↔ ∃ x y : Nat, x * x + m * (y * y) = 4 * p := by
  have h2 := hp.1
  constructor
  · rintro ⟨u, v, e⟩
    dsimp only at e
    refine ⟨(2 * p * u + b * v).natAbs, v.natAbs, ?_⟩
    have e1 : (2 * p * u + b * v) * (2 * p * u + b * v) + m * (v * v) = 4 * (p : Int) := by
      have : (2 * p * u + b * v) * (2 * p * u + b * v) + m * (v * v) = 4 * p * (p * u * u + b * u * v) + (b * b + m) * (v * v) := by grind
      rw [this, he]
      have : 4 * (p : Int) * (p * u * u + b * u * v) + 4 * (p * c) * (v * v) = 4 * p * (p * u * u + b * u * v + c * v * v) := by grind
      rw [this, e, Int.mul_one]
    rw [← Int.natAbs_mul_self (a := 2 * p * u + b * v), ← Int.natAbs_mul_self (a := v), ← Int.natCast_mul] at e1
    omega
  · rintro ⟨x, y, e⟩
    have e0 : (x : Int) * x + m * ((y : Int) * y) = 4 * (p : Int) := by
      have := congrArg (Nat.cast : Nat → Int) e
      rw [Int.natCast_add, Int.natCast_mul, Int.natCast_mul, Int.natCast_mul, Int.natCast_mul] at this
      exact this
    have e1 : ((x : Int) - b * y) * (x + b * y) = 4 * (p * (1 - c * (y * y))) := by
      have : ((x : Int) - b * y) * (x + b * y) = (x * x + m * (y * y)) - (b * b + m) * (y * y) := by grind
      rw [this, he, e0]; grind
    have hpar : ((x : Int) - b * y) % 2 = 0 := by
      generalize b * (y : Int) = w at e1
      have h4 : ((x : Int) - w) * (x + w) % 2 = 0 := by omega
      rw [Int.mul_emod] at h4
      rcases Int.emod_two_eq ((x : Int) - w) with g | g
      · exact g
      · have g2 : ((x : Int) + w) % 2 = 1 := by omega
        rw [g, g2] at h4
        exact absurd h4 (by decide)
    obtain ⟨s, hs⟩ : ∃ s, (x : Int) - b * y = 2 * s := ⟨((x : Int) - b * y) / 2, by omega⟩
    have ht : (x : Int) + b * y = 2 * (s + b * y) := by omega
    have e2 : s * (s + b * y) = p * (1 - c * (y * y)) := by
      rw [hs, ht] at e1
      have : 2 * s * (2 * (s + b * y)) = 4 * (s * (s + b * y)) := by grind
      omega
    have hd : (p : Int) ∣ s * (s + b * y) := ⟨_, e2⟩
    have fin : ∀ (u v : Int), (x : Int) = 2 * p * u + b * v → v * v = (y : Int) * y → vals ((p : Int), b, c) 1 := by
      intro u v hx hv
      refine ⟨u, v, ?_⟩
      dsimp only
      have : 4 * (p : Int) * (p * u * u + b * u * v + c * v * v) = 4 * p * 1 := by
        have h1 : 4 * (p : Int) * (p * u * u + b * u * v + c * v * v) = (2 * p * u + b * v) * (2 * p * u + b * v) - b * b * (v * v) + 4 * (p * c) * (v * v) := by grind
        rw [h1, ← he, ← hx, hv]
        have : (x : Int) * x - b * b * (y * y) + (b * b + m) * (y * y) = x * x + m * (y * y) := by grind
        rw [this, e0, Int.mul_one]
      exact Int.eq_of_mul_eq_mul_left (by omega) this
    rcases QR.int_dvd_mul hp hd with ⟨u, hu⟩ | ⟨u, hu⟩
    · refine fin u y ?_ rfl
      rw [hu] at hs
      rw [Int.mul_assoc]; omega
    · refine fin u (-y) ?_ (by rw [Int.neg_mul_neg])
      rw [hu] at ht
      rw [Int.mul_assoc, Int.mul_neg]; omega
/-- what the law's loop sees at a root b -/
theorem class_at {d : Int} {p : Nat} {b : Nat} (hf : fundP d) (d1 : -2000 ≤ d) (d2 : d < 0) (hp : QR.Prime p) (p2 : p < 1000) (hb : b ≤ p) (hr : ((b : Int) * b - d) % (4 * (p : Int)) = 0) :
    VT ((p : Int), (b : Int), ((b : Int) * b - d) / (4 * (p : Int))) ∧ ((b : Int) * b - d) / (4 * (p : Int)) ≤ 100000 ∧ 0 ≤ ((b : Int) * b - d) / (4 * (p : Int)) ∧ (b : Int) * b - 4 * p * (((b : Int) * b - d) / (4 * (p : Int))) = d ∧
    rd ((p : Int), (b : Int), ((b : Int) * b - d) / (4 * (p : Int))) ∈ lstF d 60 1 [] ∧
    ((rd ((p : Int), (b : Int), ((b : Int) * b - d) / (4 * (p : Int)))).1 = 1 ↔ repF (-d).toNat p 1000 0 ≠ none) := by
  have h2 := hp.1
  have hm := Int.mul_ediv_add_emod ((b : Int) * b - d) (4 * (p : Int))
  rw [hr, Int.add_zero] at hm
  generalize ((b : Int) * b - d) / (4 * (p : Int)) = c at hm ⊢
  have hbp : b * b ≤ p * p := Nat.mul_le_mul hb hb
  have hpp : p * p ≤ 1000 * p := Nat.mul_le_mul_right p (by omega)
  have e3 : (b : Int) * b = ((b * b : Nat) : Int) := (Int.natCast_mul b b).symm
  have hm1 : 4 * ((p : Int) * c) = (b : Int) * b - d := by rw [← hm, Int.mul_assoc]
  have hc0 : 0 ≤ c := by
    rcases Int.lt_or_le c 0 with g | g
    · have : (p : Int) * c ≤ p * 0 := Int.mul_le_mul_of_nonneg_left (by omega) (by omega)
      omega
    · exact g
  have hc1 : c ≤ 100000 := by
    rcases Int.lt_or_le 100000 c with g | g
    · have h3 : (p : Int) * 100000 ≤ p * c := Int.mul_le_mul_of_nonneg_left (by omega) (by omega)
      omega
    · exact g
  have hv : VF (p : Int) (b : Int) c := ⟨by omega, by omega, by omega, by omega, by omega, by omega⟩
  have hvt : VT ((p : Int), (b : Int), c) := hv
  have hd : (b : Int) * b - 4 * p * c = d := by rw [Int.mul_assoc]; omega
  obtain ⟨hrd, hrv⟩ := rd_red hvt
  have hds := dsc_rd hvt
  refine ⟨hvt, hc1, hc0, hd, ?_, ?_⟩
  · have hds2 : dsc3 (rd ((p : Int), (b : Int), c)) = d := by
      rw [hds]; show (b : Int) * b - 4 * (p * c) = d; omega
    generalize rd ((p : Int), (b : Int), c) = g at hrd hrv hds2
    obtain ⟨A, B, C⟩ := g
    exact mem_formL hf (by omega) d2 (VF.a1 hrv) hrd hds2
  · rw [one_iff hrv hrd, vals_rd hvt, vals_iff (m := (-d).toNat) hp (by omega), repF_iff (by omega) (by omega) 1000 0 rfl]
    constructor
    · rintro ⟨x, y, e⟩; exact ⟨x, y, Nat.zero_le _, e⟩
    · rintro ⟨x, y, _, e⟩; exact ⟨x, y, e⟩
/-- where 4 p is x x + m y y, the symbol is not -1 -/
theorem rep_sym {d : Int} {p : Nat} (hd : d % 4 = 0 ∨ d % 4 = 1) (d2 : d < 0) (hp : QR.Prime p) (p2 : p < 1000) (h : repF (-d).toNat p 1000 0 ≠ none) : QR.K d (p : Int) ≠ -1 := by
  obtain ⟨x, y, _, e⟩ := (repF_iff (by omega) (by omega) 1000 0 rfl).1 h
  have e0 : (x : Int) * x - d * ((y : Int) * y) = 4 * (p : Int) := by
    have h1 := congrArg (Nat.cast : Nat → Int) e
    rw [Int.natCast_add, Int.natCast_mul, Int.natCast_mul, Int.natCast_mul, Int.natCast_mul, Int.toNat_of_nonneg (by omega), Int.neg_mul] at h1
    rw [Int.sub_eq_add_neg]; exact h1
  rw [QR.K_prime hp]
  intro hk
  by_cases h2 : p = 2
  · subst h2
    have e1 : QR.kp d 2 = if d % 8 = 1 then 1 else if d % 8 = 5 then -1 else 0 := if_neg (by decide)
    rw [e1] at hk
    have h5 : d % 8 = 5 := by
      by_cases a : d % 8 = 1
      · rw [if_pos a] at hk; exact absurd hk (by decide)
      · rw [if_neg a] at hk
        by_cases b : d % 8 = 5
        · exact b
        · rw [if_neg b] at hk; exact absurd hk (by decide)
    have f1 : (x : Int) * x % 8 = (x : Int) % 8 * (x % 8) % 8 := Int.mul_emod _ _ _
    have f2 : (y : Int) * y % 8 = (y : Int) % 8 * (y % 8) % 8 := Int.mul_emod _ _ _
    have f3 : d * ((y : Int) * y) % 8 = d % 8 * ((y : Int) * y % 8) % 8 := Int.mul_emod _ _ _
    rw [h5, f2] at f3
    have hx8 : (x : Int) % 8 = 0 ∨ (x : Int) % 8 = 1 ∨ (x : Int) % 8 = 2 ∨ (x : Int) % 8 = 3 ∨ (x : Int) % 8 = 4 ∨ (x : Int) % 8 = 5 ∨ (x : Int) % 8 = 6 ∨ (x : Int) % 8 = 7 := by omega
    have hy8 : (y : Int) % 8 = 0 ∨ (y : Int) % 8 = 1 ∨ (y : Int) % 8 = 2 ∨ (y : Int) % 8 = 3 ∨ (y : Int) % 8 = 4 ∨ (y : Int) % 8 = 5 ∨ (y : Int) % 8 = 6 ∨ (y : Int) % 8 = 7 := by omega
    have hev : (x : Int) % 2 = 0 ∧ (y : Int) % 2 = 0 := by
      rcases hx8 with g | g | g | g | g | g | g | g <;> rw [g] at f1 <;> rcases hy8 with g' | g' | g' | g' | g' | g' | g' | g' <;> rw [g'] at f3 <;> omega
    obtain ⟨u, hu⟩ : ∃ u, (x : Int) = 2 * u := ⟨(x : Int) / 2, by omega⟩
    obtain ⟨v, hv⟩ : ∃ v, (y : Int) = 2 * v := ⟨(y : Int) / 2, by omega⟩
    rw [hu, hv] at e0
    have e3 : u * u - d * (v * v) = 2 := by
      have : 2 * u * (2 * u) - d * (2 * v * (2 * v)) = 4 * (u * u - d * (v * v)) := by grind
      omega
    have s1 := QR.sq4 u
    have s2 := QR.sq4 v
    have s3 : d * (v * v) % 4 = d % 4 * (v * v % 4) % 4 := Int.mul_emod _ _ _
    rw [s2, show d % 4 = 1 by omega, Int.one_mul] at s3
    omega
  · have ho : QR.OddP p := ⟨hp, by
      rcases Nat.mod_two_eq_zero_or_one p with e | e
      · rcases hp.2 2 (Nat.dvd_of_mod_eq_zero e) with h3 | h3 <;> omega
      · exact e⟩
    have h3 := ho.three
    have e1 : QR.kp d p = QR.leg d p := if_pos (by omega)
    rw [e1] at hk
    have hdv : (p : Int) ∣ (x : Int) * x - d * ((y : Int) * y) := ⟨4, by omega⟩
    have hl := QR.leg_congr ho hdv
    rw [QR.leg_mul ho, QR.leg_mul ho, QR.leg_mul ho, hk] at hl
    have hx := (QR.leg_spec ho (x : Int)).1
    have hy := (QR.leg_spec ho (y : Int)).1
    have hz : QR.leg (x : Int) p = 0 ∧ QR.leg (y : Int) p = 0 := by
      rcases hx with g | g | g <;> rcases hy with g' | g' | g' <;> rw [g, g'] at hl <;> first | exact ⟨g, g'⟩ | exact absurd hl (by decide)
    obtain ⟨u, hu⟩ := (QR.leg_eq_zero ho).1 hz.1
    obtain ⟨v, hv⟩ := (QR.leg_eq_zero ho).1 hz.2
    rw [hu, hv] at e0
    have e4 : (p : Int) * ((p : Int) * (u * u - d * (v * v))) = (p : Int) * 4 := by
      have : (p : Int) * u * (p * u) - d * (p * v * (p * v)) = (p : Int) * ((p : Int) * (u * u - d * (v * v))) := by grind
      omega
    have e5 : (p : Int) * (u * u - d * (v * v)) = 4 := Int.eq_of_mul_eq_mul_left (by omega) e4
    have e6 : (p : Int) ∣ 4 := ⟨_, e5.symm⟩
    have e7 : p ∣ 4 := by exact Int.natCast_dvd_natCast.1 e6
    have e8 := Nat.le_of_dvd (by decide) e7
    have ho2 := ho.2
    have : p = 3 := by omega
    subst this
    exact absurd e7 (by decide)
end Go.AM
