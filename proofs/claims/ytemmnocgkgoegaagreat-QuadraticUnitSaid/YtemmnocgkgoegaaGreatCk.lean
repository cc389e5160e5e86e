/- No smaller number than the unit's solves the equation: a check in plain Lean. No condition. -/
import Derived.Test.YtemmnocgkgoegaaGreatFt
namespace Go.AM
/-- one more, where its square is below n -/
noncomputable def upK (n r : Nat) : Nat := Bool.rec (motive := fun _ => Nat) r (Nat.succ r) (Nat.ble ((r + 1) * (r + 1)) n)
/-- n lies strictly between two squares -/
noncomputable def nsK (n r : Nat) : Bool := Bool.rec (motive := fun _ => Bool) false (Nat.ble (n + 1) ((r + 1) * (r + 1))) (Nat.ble (r * r + 1) n)
theorem nsK_ok {n r : Nat} (h : nsK n r = true) (x : Nat) : x * x ≠ n := by
  unfold nsK at h
  cases h1 : Nat.ble (r * r + 1) n with
  | false => rw [h1] at h; exact nomatch h
  | true =>
    rw [h1] at h
    have h2 := Nat.le_of_ble_eq_true h1
    have h3 : n + 1 ≤ (r + 1) * (r + 1) := Nat.le_of_ble_eq_true h
    intro e
    rcases Nat.lt_or_ge r x with c | c
    · have : (r + 1) * (r + 1) ≤ x * x := Nat.mul_le_mul c c
      omega
    · have : x * x ≤ r * r := Nat.mul_le_mul c c
      omega
noncomputable def adj {α : Type} (n r : Nat) (f : Nat → α) : α := frc (upK n r) fun r => frc (upK n r) fun r => frc (upK n r) fun r => frc (upK n r) f
theorem adj_eq {α : Type} (n r : Nat) (f : Nat → α) : ∃ r', adj n r f = f r' := ⟨_, by unfold adj; rw [frc_eq, frc_eq, frc_eq, frc_eq]⟩
/-- no k from some number on, up to fuel more, below U, makes d k k + 4 or d k k - 4 a square -/
noncomputable def ckF (d s U : Nat) (fuel : Nat) : Nat → Nat → Nat → Bool := Nat.rec (motive := fun _ => Nat → Nat → Nat → Bool) (fun _ _ _ => true)
  (fun _ ih k r r' => Bool.rec (motive := fun _ => Bool)
    (frc (d * k * k) fun n => adj (n + 4) r fun r => adj (n - 4) r' fun r' => Bool.rec (motive := fun _ => Bool) false (Bool.rec (motive := fun _ => Bool) false (frc (r + s - 1) fun r => frc (r' + s - 1) fun r' => ih (Nat.succ k) r r') (nsK (n - 4) r')) (nsK (n + 4) r))
    true (Nat.ble U k)) fuel
theorem ckF_ok {d s U : Nat} : ∀ (f k r r' : Nat), ckF d s U f k r r' = true → ∀ j, k ≤ j → j < k + f → j < U → (∀ x, x * x ≠ d * j * j + 4) ∧ (∀ x, x * x ≠ d * j * j - 4)
  | 0, _, _, _, _, j, h1, h2, _ => by omega
  | f + 1, k, r, r', h, j, h1, h2, h3 => by
    have h' : Bool.rec (motive := fun _ => Bool)
      (frc (d * k * k) fun n => adj (n + 4) r fun r => adj (n - 4) r' fun r' => Bool.rec (motive := fun _ => Bool) false (Bool.rec (motive := fun _ => Bool) false (frc (r + s - 1) fun r => frc (r' + s - 1) fun r' => ckF d s U f (Nat.succ k) r r') (nsK (n - 4) r')) (nsK (n + 4) r))
      true (Nat.ble U k) = true := h
    cases hu : Nat.ble U k with
    | true => have := Nat.le_of_ble_eq_true hu; omega
    | false =>
      rw [hu] at h'
      have h' : (frc (d * k * k) fun n => adj (n + 4) r fun r => adj (n - 4) r' fun r' => Bool.rec (motive := fun _ => Bool) false (Bool.rec (motive := fun _ => Bool) false (frc (r + s - 1) fun r => frc (r' + s - 1) fun r' => ckF d s U f (Nat.succ k) r r') (nsK (n - 4) r')) (nsK (n + 4) r)) = true := h'
      rw [frc_eq] at h'
      obtain ⟨q, hq⟩ := adj_eq (d * k * k + 4) r fun r => adj (d * k * k - 4) r' fun r' => Bool.rec (motive := fun _ => Bool) false (Bool.rec (motive := fun _ => Bool) false (frc (r + s - 1) fun r => frc (r' + s - 1) fun r' => ckF d s U f (Nat.succ k) r r') (nsK (d * k * k - 4) r')) (nsK (d * k * k + 4) r)
      rw [hq] at h'
      obtain ⟨q', hq'⟩ := adj_eq (d * k * k - 4) r' fun r' => Bool.rec (motive := fun _ => Bool) false (Bool.rec (motive := fun _ => Bool) false (frc (q + s - 1) fun r => frc (r' + s - 1) fun r' => ckF d s U f (Nat.succ k) r r') (nsK (d * k * k - 4) r')) (nsK (d * k * k + 4) q)
      rw [hq'] at h'
      cases n1 : nsK (d * k * k + 4) q with
      | false => rw [n1] at h'; exact nomatch h'
      | true =>
        rw [n1] at h'
        have h' : Bool.rec (motive := fun _ => Bool) false (frc (q + s - 1) fun r => frc (q' + s - 1) fun r' => ckF d s U f (Nat.succ k) r r') (nsK (d * k * k - 4) q') = true := h'
        cases n2 : nsK (d * k * k - 4) q' with
        | false => rw [n2] at h'; exact nomatch h'
        | true =>
          rw [n2] at h'
          have h' : (frc (q + s - 1) fun r => frc (q' + s - 1) fun r' => ckF d s U f (Nat.succ k) r r') = true := h'
          rw [frc_eq, frc_eq] at h'
          rcases Nat.lt_or_ge k j with c | c
          · exact ckF_ok f (Nat.succ k) _ _ h' j c (by omega) h3
          · have : j = k := by omega
            subst this
            exact ⟨nsK_ok n1, nsK_ok n2⟩
/-- the check of an entry of the table -/
noncomputable def entK (d t u : Nat) (neg : Bool) (s : Nat) : Bool :=
  Bool.rec (motive := fun _ => Bool) false (ckF d s u 2999 1 s (s - 1))
    (Nat.ble 5 d && Nat.ble d 1000 && Nat.ble 1 t && Nat.ble 1 u && Nat.ble t (2 ^ 100) && Nat.ble u (2 ^ 100) && Bool.rec (motive := fun _ => Bool) (Nat.beq (t * t) (d * u * u + 4)) (Nat.beq (t * t + 4) (d * u * u)) neg)
noncomputable def sK (d : Nat) : Nat := Nat.rec (motive := fun _ => Nat) 0 (fun _ r => frc r fun r => upK d r) 32
noncomputable def allK (l : List (Nat × Nat × Nat × Bool)) : Bool := List.rec (motive := fun _ => Bool) true (fun e _ ih => frc (sK e.1) fun s => Bool.rec (motive := fun _ => Bool) false ih (entK e.1 e.2.1 e.2.2.1 e.2.2.2 s)) l
theorem allK_mem : ∀ {l : List (Nat × Nat × Nat × Bool)}, allK l = true → ∀ e ∈ l, entK e.1 e.2.1 e.2.2.1 e.2.2.2 (sK e.1) = true
  | [], _, e, h => nomatch h
  | x :: r, ha, e, h => by
    have h' : (frc (sK x.1) fun s => Bool.rec (motive := fun _ => Bool) false (allK r) (entK x.1 x.2.1 x.2.2.1 x.2.2.2 s)) = true := ha
    rw [frc_eq] at h'
    cases hf : entK x.1 x.2.1 x.2.2.1 x.2.2.2 (sK x.1) with
    | false => rw [hf] at h'; cases h'
    | true =>
      rw [hf] at h'
      rcases List.mem_cons.1 h with c | c
      · subst c; exact hf
      · exact allK_mem h' e c
end Go.AM
