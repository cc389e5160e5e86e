/- The operations on numbers, bools, strings and equal structs: what the machine computes is what the model's operations answer. No condition. -/
import Derived.Test.YtemmnocgkgoegaaAm4
import Derived.Laws.StructEq
import Derived.ChangeKeysEq
import Derived.WalkSpells
namespace Go.AM
open Go

theorem blt_true {a b : Nat} (h : a < b) : Nat.blt a b = true := by rw [Nat.blt_eq]; exact h
theorem blt_false {a b : Nat} (h : ¬ a < b) : Nat.blt a b = false := by
  cases hx : Nat.blt a b with
  | false => rfl
  | true => rw [Nat.blt_eq] at hx; exact absurd hx h

def inR : Int → Bool
  | .ofNat a => Nat.blt a 9223372036854775808
  | .negSucc a => Nat.blt a 9223372036854775808
def slow (n : Int) : Int := if n % 18446744073709551616 ≥ 9223372036854775808 then n % 18446744073709551616 - 18446744073709551616 else n % 18446744073709551616
theorem awrap_i64 (n : Int) : awrap .i64 n = bif inR n then n else slow n := by cases n <;> rfl
theorem inR_true {n : Int} (h : inR n = true) : -9223372036854775808 ≤ n ∧ n < 9223372036854775808 := by
  cases n with
  | ofNat a => rw [inR, Nat.blt_eq] at h; have : Int.ofNat a = (a : Int) := rfl; omega
  | negSucc a => rw [inR, Nat.blt_eq] at h; omega
theorem slow_id {n : Int} (h : -9223372036854775808 ≤ n ∧ n < 9223372036854775808) : slow n = n := by
  unfold slow; split <;> omega
theorem awrap_slow (n : Int) : awrap .i64 n = slow n := by
  rw [awrap_i64]
  cases h : inR n with
  | true => rw [cond_true, slow_id (inR_true h)]
  | false => rfl

theorem wrap_i64 (n : Int) : IntKind.wrap .i64 n = slow n := by
  have p64 : (2 : Int) ^ 64 = 18446744073709551616 := by decide +kernel
  have p63 : (2 : Int) ^ 63 = 9223372036854775808 := by decide +kernel
  simp only [IntKind.wrap, IntKind.bits, IntKind.signed, p64, Nat.reduceSub, p63, Bool.true_and, decide_eq_true_eq]
  rfl

theorem awrap_eq (k : IntKind) (n : Int) : awrap k n = k.wrap n := by
  have p8 : (2 : Int) ^ 8 = 256 := by decide +kernel
  have p16 : (2 : Int) ^ 16 = 65536 := by decide +kernel
  have p32 : (2 : Int) ^ 32 = 4294967296 := by decide +kernel
  have p64 : (2 : Int) ^ 64 = 18446744073709551616 := by decide +kernel
  have p7 : (2 : Int) ^ 7 = 128 := by decide +kernel
  have p15 : (2 : Int) ^ 15 = 32768 := by decide +kernel
  have p31 : (2 : Int) ^ 31 = 2147483648 := by decide +kernel
  cases k
  case i64 => rw [awrap_slow, wrap_i64]
  all_goals simp only [awrap, IntKind.wrap, IntKind.bits, IntKind.signed, p8, p16, p32, p64, Nat.reduceSub, p7, p15, p31, Bool.true_and, Bool.false_and, decide_eq_true_eq, Bool.false_eq_true, if_false]

theorem awrap_id {n : Int} (h1 : -9223372036854775808 ≤ n) (h2 : n ≤ 9223372036854775807) : awrap .i64 n = n := by
  rw [awrap_slow, slow_id ⟨h1, by omega⟩]

theorem ilt_eq (a b : Int) : ilt a b = decide (a < b) := by
  cases a <;> cases b <;> simp only [ilt]
  · rename_i a b; by_cases h : a < b
    · rw [blt_true h]; symm; rw [decide_eq_true_eq]; show (a : Int) < b; omega
    · have : Nat.blt a b = false := blt_false h
      rw [this]; symm; rw [decide_eq_false_iff_not]; show ¬ ((a : Int) < b); omega
  · symm; rw [decide_eq_false_iff_not]; rename_i a b; show ¬ ((a : Int) < Int.negSucc b); omega
  · symm; rw [decide_eq_true_eq]; rename_i a b; show Int.negSucc a < (b : Int); omega
  · rename_i a b; by_cases h : b < a
    · rw [blt_true h]; symm; rw [decide_eq_true_eq]; omega
    · have : Nat.blt b a = false := blt_false h
      rw [this]; symm; rw [decide_eq_false_iff_not]; omega
theorem ieq_eq (a b : Int) : ieq a b = decide (a = b) := by
  cases a <;> cases b <;> simp only [ieq]
  · rename_i a b; by_cases h : a = b
    · subst h; simp
    · have : Nat.beq a b = false := by cases hx : Nat.beq a b <;> simp_all
      rw [this]; symm; rw [decide_eq_false_iff_not]; intro e; exact h (Int.ofNat.inj e)
  · symm; rw [decide_eq_false_iff_not]; intro e; cases e
  · symm; rw [decide_eq_false_iff_not]; intro e; cases e
  · rename_i a b; by_cases h : a = b
    · subst h; simp
    · have : Nat.beq a b = false := by cases hx : Nat.beq a b <;> simp_all
      rw [this]; symm; rw [decide_eq_false_iff_not]; intro e; exact h (Int.negSucc.inj e)
theorem keq_eq (a b : IntKind) : keq a b = decide (a = b) := by cases a <;> cases b <;> rfl
theorem ieq_beq (a b : Int) : ieq a b = (a == b) := by rw [ieq_eq]; rfl

theorem kmod_eq (k : IntKind) (x : Int) : (BitVec.ofInt k.bits x).toNat = kmod k x := by
  have p8 : (2 : Nat) ^ 8 = 256 := by decide
  have p16 : (2 : Nat) ^ 16 = 65536 := by decide
  have p32 : (2 : Nat) ^ 32 = 4294967296 := by decide
  have p64 : (2 : Nat) ^ 64 = 18446744073709551616 := by decide
  cases k <;> simp only [kmod, IntKind.bits, BitVec.toNat_ofInt, p8, p16, p32, p64] <;> rfl
theorem kbits_eq (k : IntKind) : kbits k = k.bits := by cases k <;> rfl
theorem kmask_eq (k : IntKind) (x : Int) : (~~~(BitVec.ofInt k.bits x)).toNat = kmask k - kmod k x := by
  rw [BitVec.toNat_not, kmod_eq]
  cases k <;> rfl

theorem ibits_run {P : Program} {w : World} {op : BinOp} {k : IntKind} {x y : Int} {av : AV} (h : ibits op k x y = some av) :
    ∃ v, (Op.intBits op k x y).run P w = .ok v w ∧ ∀ ρ, VR ρ av v := by
  cases op <;> simp only [ibits, Option.some.injEq, reduceCtorEq] at h <;> subst h <;>
    (refine ⟨_, rfl, fun ρ => ?_⟩; rw [awrap_eq]) <;>
    simp only [BitVec.toNat_and, BitVec.toNat_or, BitVec.toNat_xor, kmod_eq, kmask_eq] <;> exact .int _ _

theorem ishift_run {P : Program} {w : World} {left : Bool} {k yk : IntKind} {x y : Int} {av : AV} (h : ishift left k x y = some av) :
    ∃ v, (Op.shift (if left then .shl else .shr) k x yk y).run P w = .ok v w ∧ ∀ ρ, VR ρ av v := by
  unfold ishift at h
  by_cases hy : y < 0
  · rw [if_pos hy] at h; cases h
  · rw [if_neg hy, kbits_eq, awrap_eq] at h
    have hp : ∀ n : Nat, (((2 : Nat) ^ n : Nat) : Int) = (2 : Int) ^ n := fun n => by simp
    rw [hp] at h
    cases left
    · simp at h; subst h
      exact ⟨_, by simp only [Op.shift, if_neg hy]; rfl, fun ρ => .int _ _⟩
    · simp at h; subst h
      exact ⟨_, by simp only [Op.shift, if_neg hy]; rfl, fun ρ => .int _ _⟩

theorem toList_map (s : ByteArray) : s.toList = s.data.toList := ByteArray.toList_eq s

theorem map_toNat_inj {a b : List UInt8} (h : a.map (·.toNat) = b.map (·.toNat)) : a = b :=
  (List.map_inj_right (fun _ _ hxy => UInt8.toNat_inj.1 hxy)).1 h

theorem less_eq (a b : List UInt8) : less (a.map (·.toNat)) (b.map (·.toNat)) = Op.bytesLess a b := by
  induction a generalizing b with
  | nil => cases b <;> simp [less, Op.bytesLess]
  | cons x xs ih =>
    cases b with
    | nil => simp [less, Op.bytesLess]
    | cons y ys =>
      simp only [List.map_cons, less, Op.bytesLess, ih]
      have e1 : decide (x.toNat < y.toNat) = decide (x < y) := by simp [UInt8.lt_iff_toNat_lt]
      have e2 : Nat.beq x.toNat y.toNat = (x == y) := by
        by_cases h : x = y
        · subst h; simp
        · have h1 : x.toNat ≠ y.toNat := fun e => h (UInt8.toNat_inj.1 e)
          have h2 : Nat.beq x.toNat y.toNat = false := by cases hx : Nat.beq x.toNat y.toNat <;> simp_all
          rw [h2]; simp [h]
      rw [e1, e2]

theorem strs_eq (s t : ByteArray) : decide (s.data.toList.map (·.toNat) = t.data.toList.map (·.toNat)) = (s.toList == t.toList) := by
  rw [toList_map, toList_map]
  by_cases h : s.data.toList = t.data.toList
  · simp [h]
  · have : ¬ (s.data.toList.map (·.toNat) = t.data.toList.map (·.toNat)) := fun e => h (map_toNat_inj e)
    rw [decide_eq_false this]; symm; simpa using fun e => h (congrArg Array.toList e)

theorem sbin_run {P : Program} {w : World} {op : BinOp} {s t : ByteArray} {av : AV} (h : sbin op (s.data.toList.map (·.toNat)) (t.data.toList.map (·.toNat)) = some av) :
    ∃ v, (Op.stringOp op s t).run P w = .ok v w ∧ ∀ ρ, VR ρ av v := by
  have hl : ∀ s t : ByteArray, less (s.data.toList.map (·.toNat)) (t.data.toList.map (·.toNat)) = Op.bytesLess s.toList t.toList := fun s t => by rw [less_eq, toList_map, toList_map]
  cases op with
  | add =>
    simp only [sbin, List.length_map] at h
    split at h
    · rename_i hle
      cases h
      have e1 : s.data.toList.length = s.size := rfl
      have e2 : t.data.toList.length = t.size := rfl
      rw [e1, e2] at hle
      have : ¬ (((s.size + t.size : Nat) : Int) > IntKind.max .i64) := by
        have : IntKind.max .i64 = 9223372036854775807 := by decide
        rw [this]; omega
      refine ⟨_, by simp only [Op.stringOp, if_neg this]; rfl, fun ρ => .str ?_⟩
      simp [ByteArray.data_append]
    · cases h
  | eql => simp only [sbin, Option.some.injEq] at h; subst h; exact ⟨_, rfl, fun ρ => by rw [strs_eq]; exact .bool _⟩
  | neq => simp only [sbin, Option.some.injEq] at h; subst h; exact ⟨_, rfl, fun ρ => by rw [strs_eq]; exact .bool _⟩
  | lss => simp only [sbin, Option.some.injEq] at h; subst h; exact ⟨_, rfl, fun ρ => by rw [hl]; exact .bool _⟩
  | leq => simp only [sbin, Option.some.injEq] at h; subst h; exact ⟨_, rfl, fun ρ => by rw [hl, strs_eq]; exact .bool _⟩
  | gtr => simp only [sbin, Option.some.injEq] at h; subst h; exact ⟨_, rfl, fun ρ => by rw [hl, strs_eq]; exact .bool _⟩
  | geq => simp only [sbin, Option.some.injEq] at h; subst h; exact ⟨_, rfl, fun ρ => by rw [hl]; exact .bool _⟩
  | _ => simp [sbin] at h

/-! ### equality of flat values -/

theorem eqCell_run {ρ : Rho} {P : Program} {w : World} {a b : AV} {v u : Value} {t : TypeId} {r : Bool} {D d k : Nat} (hf : flatT P (d + 1) t = some [k]) (hag : aggT P t = some false)
    (ha : VR ρ a v) (hb : VR ρ b u) (h : eqCell k a b = some r) : (Op.equalIn (D + 1) t v u).run P w = .ok r w := by
  unfold flatT at hf
  unfold aggT at hag
  cases hu : P.underlying t with
  | none => rw [hu] at hf; simp at hf
  | some dsc =>
    rw [hu] at hf hag
    cases a with
    | int q n =>
      cases b with
      | int q' n' =>
        cases ha; cases hb
        simp only [eqCell, keq_eq] at h
        by_cases e : q = q'
        · subst e
          cases hk : Nat.beq k 1 with
          | false => simp [hk] at h
          | true =>
            obtain rfl := Nat.eq_of_beq_eq_true hk
            simp at h; subst h
            rw [ieq_beq]
            cases dsc <;> simp at hf hag
            simp [Op.equalIn, run_underlying hu]
        · simp [e] at h
      | _ => simp [eqCell] at h
    | bool x =>
      cases b with
      | bool y =>
        cases ha; cases hb
        simp only [eqCell] at h
        cases hk : Nat.beq k 0 with
        | false => simp [hk] at h
        | true =>
          obtain rfl := Nat.eq_of_beq_eq_true hk
          simp at h; subst h
          cases dsc <;> simp at hf hag
          simp [Op.equalIn, run_underlying hu]
      | _ => simp [eqCell] at h
    | str x =>
      cases b with
      | str y =>
        cases ha with | str ha => cases hb with | str hb =>
        subst ha; subst hb
        simp only [eqCell] at h
        cases hk : Nat.beq k 2 with
        | false => simp [hk] at h
        | true =>
          obtain rfl := Nat.eq_of_beq_eq_true hk
          simp only [Nat.beq_refl, cond_true, Option.some.injEq] at h; subst h
          rw [strs_eq]
          cases dsc <;> simp at hf hag
          exact run_equalIn_string w D t _ _ hu
      | _ => simp [eqCell] at h
    | _ => simp [eqCell] at h

end Go.AM
