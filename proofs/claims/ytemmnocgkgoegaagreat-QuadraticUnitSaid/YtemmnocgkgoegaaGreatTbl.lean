/- The table of the fundamental units as an answer. No condition. -/
import Derived.Test.YtemmnocgkgoegaaGreatRt4
import Derived.Test.YtemmnocgkgoegaaGreatFTs
set_option maxRecDepth 1000000
set_option linter.unusedVariables false
namespace Go.AM
open Go
noncomputable def lkp (d : Nat) (l : List (Nat × Nat × Nat × Bool)) : Option (Nat × Nat × Nat × Bool) := List.rec (motive := fun _ => Option (Nat × Nat × Nat × Bool)) none (fun e _ ih => Bool.rec (motive := fun _ => Option (Nat × Nat × Nat × Bool)) ih (some e) (Nat.beq e.1 d)) l
theorem lkp_some {d : Nat} : ∀ {l : List (Nat × Nat × Nat × Bool)} {e}, lkp d l = some e → e ∈ l ∧ e.1 = d
  | [], e, h => nomatch h
  | x :: r, e, h => by
    have h' : Bool.rec (motive := fun _ => Option (Nat × Nat × Nat × Bool)) (lkp d r) (some x) (Nat.beq x.1 d) = some e := h
    cases hb : Nat.beq x.1 d with
    | true => rw [hb] at h'; cases h'; exact ⟨.head _, Nat.eq_of_beq_eq_true hb⟩
    | false =>
      rw [hb] at h'
      obtain ⟨h1, h2⟩ := lkp_some h'
      exact ⟨.tail _ h1, h2⟩
noncomputable def funT : List AV → Option AV
  | [.int .i64 d] => bif decide (0 ≤ d) then (match lkp d.toNat ftl with | some e => some (fuV e.2.1 e.2.2.1 e.2.2.2) | none => none) else none
  | _ => none
theorem fOK_run {d t u : Nat} {neg : Bool} (h : fOK d t u neg = true) : ∃ h', callF otab.get U15 100000 (.fn 6) [.int .i64 (d : Int)] .empty = some (fuV t u neg, h') := by
  unfold fOK at h
  have hd : (Int.ofNat d) = (d : Int) := rfl
  rw [hd] at h
  split at h
  · rename_i v h' e
    exact ⟨h', by rw [e, AV.eq_of_beq h]⟩
  · cases h
noncomputable def F1 : Oracle := ext U15 6 funT
theorem F1_ok : IOK Go.Proofs.Tryz.prog F1 := IOK.extend mixed tabOK U15_ok (g := 6) (fn := af6) rfl fun args av h => by
  unfold funT at h
  split at h
  · rename_i d
    obtain ⟨h1, h2⟩ := bif_run h
    split at h2
    · rename_i e he
      cases h2
      obtain ⟨m1, m2⟩ := lkp_some he
      obtain ⟨h', hr⟩ := fOK_run (ftl_mem e m1)
      obtain ⟨k, rfl⟩ := Int.eq_ofNat_of_zero_le (of_decide_eq_true h1)
      rw [Int.toNat_natCast] at m2
      rw [m2] at hr
      refine ⟨rfl, ?_, _, h', callF_opt otabOK _ _ _ _ _ hr⟩
      unfold fuV; rfl
    · cases h2
  · cases h
noncomputable def D23 : Oracle := ext D22 6 funT
theorem D23_ok : IOK Go.Proofs.Tryz.prog D23 := IOK.join D22_ok F1_ok fun args av h e => ext_hit e
/-- every fundamental discriminant up to 1000 is in the table -/
noncomputable def covK (n : Nat) : Bool := Nat.rec (motive := fun _ => Bool) true (fun k ih => Bool.rec (motive := fun _ => Bool) false ih (Bool.rec (motive := fun _ => Bool) true (Option.rec (motive := fun _ => Bool) false (fun _ => true) (lkp k ftl)) (decide (fundP (Int.ofNat k))))) n
theorem covK_spec : ∀ {n : Nat}, covK n = true → ∀ k, k < n → fundP (k : Int) → ∃ e, lkp k ftl = some e
  | 0, _, k, hk, _ => by omega
  | n + 1, h, k, hk, hf => by
    have h' : Bool.rec (motive := fun _ => Bool) false (covK n) (Bool.rec (motive := fun _ => Bool) true (Option.rec (motive := fun _ => Bool) false (fun _ => true) (lkp n ftl)) (decide (fundP (Int.ofNat n)))) = true := h
    cases hc : (Bool.rec (motive := fun _ => Bool) true (Option.rec (motive := fun _ => Bool) false (fun _ => true) (lkp n ftl)) (decide (fundP (Int.ofNat n))) : Bool) with
    | false => rw [hc] at h'; cases h'
    | true =>
      rw [hc] at h'
      by_cases e : k = n
      · subst e
        have hd : decide (fundP (Int.ofNat k)) = true := decide_eq_true hf
        rw [hd] at hc
        cases hl : lkp k ftl with
        | some e => exact ⟨e, rfl⟩
        | none => rw [hl] at hc; cases hc
      · exact covK_spec h' k (by omega) hf
theorem cov : covK 1001 = true := by kernel_rfl
end Go.AM
