/- Long division, in digits. Plain arithmetic; no program in sight. No condition. -/
import Derived.Test.YtemmnocgkgoegaaGreatArm
set_option maxRecDepth 100000
set_option linter.unusedVariables false
namespace Go.AM
/-- one digit of a subtraction of a multiple: d is of V, d' of V - g Y -/
theorem dig_step {d d' p : Nat} (hd' : d' < 4294967296) (hd : d = (d' + p) % 4294967296) :
    (d < p % 4294967296 → d + 4294967296 - p % 4294967296 = d' ∧ p / 4294967296 + 1 = (d' + p) / 4294967296) ∧
    (¬ d < p % 4294967296 → d - p % 4294967296 = d' ∧ p / 4294967296 = (d' + p) / 4294967296) := by
  subst hd
  refine ⟨fun h => ⟨by omega, by omega⟩, fun h => ⟨by omega, by omega⟩⟩
/-- the borrow after i digits -/
def bor (b V' g Y i : Nat) : Nat := mcr b V' g Y 0 i
theorem bor_zero {b : Nat} (hb : 0 < b) (V' g Y : Nat) : bor b V' g Y 0 = 0 := mcr_zero hb V' g Y 0
theorem bor_succ {b : Nat} (hb : 0 < b) (V' g Y i : Nat) : bor b V' g Y (i + 1) = (dgt b V' i + g * dgt b Y i + bor b V' g Y i) / b := by
  unfold bor; rw [mcr_succ hb, Nat.zero_add]
theorem bor_dgt {b : Nat} (hb : 0 < b) (V' g Y i : Nat) : dgt b (V' + g * Y) i = (dgt b V' i + g * dgt b Y i + bor b V' g Y i) % b := by
  have := dgt_prod hb V' g Y 0 i
  rw [Nat.pow_zero, Nat.mul_one, Nat.zero_add] at this
  exact this
theorem bor_lt {b : Nat} (hb : 1 < b) {V' g Y : Nat} (hg : g < b) (i : Nat) : bor b V' g Y i < b := mcr_lt hb hg i
/-- the top digit -/
theorem bor_top {b : Nat} (hb : 1 < b) {V' g Y n : Nat} (hY : Y < b ^ n) (hV : V' + g * Y < b ^ (n + 1)) : dgt b (V' + g * Y) n = dgt b V' n + bor b V' g Y n := by
  have hp : 0 < b ^ n := Nat.pow_pos (by omega)
  have e1 : (V' + g * Y) / b ^ n = V' / b ^ n + bor b V' g Y n := by
    unfold bor mcr
    rw [Nat.zero_add, Nat.pow_zero, Nat.mul_one, Nat.mod_eq_of_lt hY]
    have h := Nat.mod_add_div V' (b ^ n)
    have : V' + g * Y = V' % b ^ n + g * Y + b ^ n * (V' / b ^ n) := by omega
    rw [this, Nat.add_mul_div_left _ _ hp, Nat.add_comm]
  have l1 : (V' + g * Y) / b ^ n < b := Nat.div_lt_of_lt_mul (by rw [Nat.pow_succ] at hV; exact hV)
  unfold dgt
  rw [Nat.mod_eq_of_lt l1, e1, Nat.mod_eq_of_lt (by omega)]
/-- the guess is not too great -/
theorem guess_le {b Vk Y n : Nat} (hb : 1 < b) (hn : 1 ≤ n) (hY : Y < b ^ n) (hle : Y ≤ Vk) : max 1 (Vk / b ^ (n - 1) / (dgt b Y (n - 1) + 1)) * Y ≤ Vk := by
  have hp : 0 < b ^ (n - 1) := Nat.pow_pos (by omega)
  have hyt : Y < (dgt b Y (n - 1) + 1) * b ^ (n - 1) := by
    have h1 : Y / b ^ (n - 1) < b := Nat.div_lt_of_lt_mul (by rw [← Nat.pow_succ, show (n - 1).succ = n by omega]; exact hY)
    have h2 : dgt b Y (n - 1) = Y / b ^ (n - 1) := by unfold dgt; exact Nat.mod_eq_of_lt h1
    rw [h2, Nat.mul_comm]
    exact Nat.lt_mul_div_succ Y hp
  generalize dgt b Y (n - 1) + 1 = t at hyt
  rcases Nat.le_total (Vk / b ^ (n - 1) / t) 1 with h | h
  · rw [Nat.max_eq_left h, Nat.one_mul]; exact hle
  · rw [Nat.max_eq_right h]
    calc Vk / b ^ (n - 1) / t * Y ≤ Vk / b ^ (n - 1) / t * (t * b ^ (n - 1)) := Nat.mul_le_mul_left _ (Nat.le_of_lt hyt)
      _ = (Vk / b ^ (n - 1) / t * t) * b ^ (n - 1) := by rw [Nat.mul_assoc]
      _ ≤ Vk / b ^ (n - 1) * b ^ (n - 1) := Nat.mul_le_mul_right _ (Nat.div_mul_le_self _ _)
      _ ≤ Vk := Nat.div_mul_le_self _ _
end Go.AM
