/- The reduction of forms: what the code computes. No condition. -/
import Derived.Test.YtemmnocgkgoegaaAm31
import Derived.Test.YtemmnocgkgoegaaSqm
set_option maxRecDepth 100000
set_option linter.unusedSimpArgs false
set_option linter.unusedVariables false
namespace Go.AM
open Go
/-- the multiple that brings B into the range from 1 - A to A -/
def nk (A B : Int) : Int := (A - B) / (2 * A)
def nB (A B : Int) : Int := B + 2 * A * nk A B
def nC (A B C : Int) : Int := A * nk A B * nk A B + B * nk A B + C
theorem nB_range {A B : Int} (hA : 1 ≤ A) : -A < nB A B ∧ nB A B ≤ A := by
  have h1 := Int.emod_add_mul_ediv (A - B) (2 * A)
  have h2 := Int.emod_nonneg (A - B) (show 2 * A ≠ 0 by omega)
  have h3 := Int.emod_lt_of_pos (A - B) (show 0 < 2 * A by omega)
  unfold nB nk
  generalize 2 * A * ((A - B) / (2 * A)) = t at h1 ⊢
  omega
theorem nk_unique {A B k : Int} (hA : 1 ≤ A) (h1 : -A < B + 2 * A * k) (h2 : B + 2 * A * k ≤ A) : k = nk A B := by
  have h := (Int.ediv_emod_unique (a := A - B) (r := A - B - 2 * A * k) (q := k) (show 0 < 2 * A by omega)).2 ⟨by omega, by omega, by omega⟩
  exact h.1.symm
theorem disc_id (A B C k : Int) : 4 * (A * (A * k * k + B * k + C)) - (B + 2 * A * k) * (B + 2 * A * k) = 4 * (A * C) - B * B := by grind
/-- a positive definite form within bounds -/
structure VF (A B C : Int) : Prop where
  a1 : 1 ≤ A
  a2 : A ≤ 100000
  b1 : -100000 ≤ B
  b2 : B ≤ 100000
  d1 : 0 < 4 * (A * C) - B * B
  d2 : 4 * (A * C) - B * B ≤ 40000000000
theorem sq_le {B : Int} (b1 : -100000 ≤ B) (b2 : B ≤ 100000) : 0 ≤ B * B ∧ B * B ≤ 10000000000 := by
  have h1 : (B.natAbs * B.natAbs : Nat) ≤ 100000 * 100000 := Nat.mul_le_mul (by omega) (by omega)
  have h2 : ((B.natAbs * B.natAbs : Nat) : Int) = B * B := Int.natAbs_mul_self
  omega
theorem VF.c {A B C : Int} (h : VF A B C) : 1 ≤ C ∧ C ≤ 12500000000 := by
  have h1 := sq_le h.b1 h.b2
  have h2 := h.a1
  have d1 := h.d1
  have d2 := h.d2
  have hpos : 0 < A * C := by omega
  have hC : 0 < C := Int.pos_of_mul_pos_right (a := A) (b := C) hpos (by omega)
  have h3 : 1 * C ≤ A * C := Int.mul_le_mul_of_nonneg_right h2 (by omega)
  omega
theorem VF.norm {A B C : Int} (h : VF A B C) : VF A (nB A B) (nC A B C) := by
  have hr := nB_range (B := B) h.a1
  have hd := disc_id A B C (nk A B)
  have e : 4 * (A * nC A B C) - nB A B * nB A B = 4 * (A * C) - B * B := hd
  have a2 := h.a2
  exact ⟨h.a1, h.a2, by omega, by omega, by rw [e]; exact h.d1, by rw [e]; exact h.d2⟩
abbrev F3 := Int × Int × Int
/-- one step of the reduction -/
def stp (f : F3) : F3 := if f.1 > nC f.1 f.2.1 f.2.2 ∨ f.1 = nC f.1 f.2.1 f.2.2 ∧ nB f.1 f.2.1 < 0 then (nC f.1 f.2.1 f.2.2, -nB f.1 f.2.1, f.1) else (f.1, nB f.1 f.2.1, nC f.1 f.2.1 f.2.2)
def VT (f : F3) : Prop := VF f.1 f.2.1 f.2.2
theorem VT.step {f : F3} (h : VT f) : VT (stp f) := by
  obtain ⟨A, B, C⟩ := f
  have h : VF A B C := h
  have hn := h.norm
  have hc := hn.c
  have hr := nB_range (B := B) h.a1
  unfold stp
  dsimp only
  by_cases hs : A > nC A B C ∨ A = nC A B C ∧ nB A B < 0
  · rw [if_pos hs]
    have a2 := h.a2
    have e1 : nC A B C * A = A * nC A B C := Int.mul_comm _ _
    have e2 : -nB A B * -nB A B = nB A B * nB A B := by rw [Int.neg_mul_neg]
    refine ⟨hc.1, by dsimp only; omega, by dsimp only; omega, by dsimp only; omega, ?_, ?_⟩
    · dsimp only; rw [e1, e2]; exact hn.d1
    · dsimp only; rw [e1, e2]; exact hn.d2
  · rw [if_neg hs]; exact hn
/-- is the form reduced? -/
def isRed (f : F3) : Prop := (f.2.1.natAbs : Int) ≤ f.1 ∧ f.1 ≤ f.2.2 ∧ (0 ≤ f.2.1 ∨ ((f.2.1.natAbs : Int) ≠ f.1 ∧ f.1 ≠ f.2.2))
instance (f : F3) : Decidable (isRed f) := by unfold isRed; infer_instance
theorem nk_zero {A B : Int} (hA : 1 ≤ A) (h1 : -A < B) (h2 : B ≤ A) : nk A B = 0 := (nk_unique (k := 0) hA (by omega) (by omega)).symm
theorem norm_zero {A B C : Int} (hA : 1 ≤ A) (h1 : -A < B) (h2 : B ≤ A) : nB A B = B ∧ nC A B C = C := by
  unfold nB nC
  rw [nk_zero hA h1 h2]
  simp
theorem stp_red {f : F3} (h : VT f) (hr : isRed f) : stp f = f := by
  obtain ⟨A, B, C⟩ := f
  have h : VF A B C := h
  obtain ⟨r1, r2, r3⟩ := hr
  dsimp only at r1 r2 r3
  have hA := h.a1
  obtain ⟨e1, e2⟩ := norm_zero (C := C) hA (show -A < B by omega) (show B ≤ A by omega)
  unfold stp
  dsimp only
  rw [e1, e2, if_neg (by omega)]
theorem red_stp {f : F3} (h : VT f) (he : stp f = f) : isRed f := by
  obtain ⟨A, B, C⟩ := f
  have h : VF A B C := h
  have hA := h.a1
  have hr := nB_range (B := B) hA
  unfold stp at he
  dsimp only at he
  unfold isRed
  dsimp only
  by_cases hs : A > nC A B C ∨ A = nC A B C ∧ nB A B < 0
  · rw [if_pos hs] at he
    simp only [Prod.mk.injEq] at he
    obtain ⟨e1, e2, e3⟩ := he
    exfalso
    rcases hs with hs | ⟨_, hs⟩
    · omega
    · have hz := norm_zero (C := C) hA (show -A < B by omega) (show B ≤ A by omega)
      omega
  · rw [if_neg hs] at he
    simp only [Prod.mk.injEq] at he
    obtain ⟨e1, e2, e3⟩ := he
    omega
/-- a form of the kind that a step leaves: C is the A before -/
def Sw (f : F3) : Prop := f.1 ≤ f.2.2 ∧ -f.2.2 ≤ f.2.1 ∧ f.2.1 ≤ f.2.2
/-- where A is more than half of C, a step ends it -/
theorem half {A B C : Int} (h : VF A B C) (h1 : A ≤ C) (h2 : -C ≤ B) (h3 : B ≤ C) (h4 : C < 2 * A) : A ≤ nC A B C := by
  have hA := h.a1
  have hr := nB_range (B := B) hA
  unfold nB at hr
  unfold nC
  have hk : nk A B = 0 ∨ nk A B = 1 ∨ nk A B = -1 := by
    rcases Int.lt_or_le (nk A B) (-1) with e | e
    · exfalso
      have : 2 * A * nk A B ≤ 2 * A * (-2) := Int.mul_le_mul_of_nonneg_left (by omega) (by omega)
      omega
    · rcases Int.lt_or_le 1 (nk A B) with e2 | e2
      · exfalso
        have : 2 * A * 2 ≤ 2 * A * nk A B := Int.mul_le_mul_of_nonneg_left (by omega) (by omega)
        omega
      · omega
  rcases hk with e | e | e <;> rw [e] at hr ⊢ <;> omega
def itr : Nat → F3 → F3
  | 0, f => f
  | n + 1, f => itr n (stp f)
theorem red_one {A B C : Int} (h : VF A B C) (hs : ¬ (A > nC A B C ∨ A = nC A B C ∧ nB A B < 0)) : isRed (A, nB A B, nC A B C) := by
  have hr := nB_range (B := B) h.a1
  unfold isRed; dsimp only
  omega
theorem red_tie {A B C : Int} (h : VF A B C) (h1 : A = nC A B C) (h2 : nB A B < 0) : isRed (nC A B C, -nB A B, A) := by
  have hr := nB_range (B := B) h.a1
  unfold isRed; dsimp only
  omega
theorem reach_sw : ∀ (m : Nat) (f : F3), VT f → Sw f → f.2.2 < 2 ^ m → ∃ n, n ≤ m + 1 ∧ isRed (itr n f)
  | 0, (A, B, C), h, hw, hc => by
    have h : VF A B C := h
    have := h.a1
    have := hw.1
    dsimp only at *
    omega
  | m + 1, (A, B, C), h, hw, hc => by
    have hv : VF A B C := h
    obtain ⟨w1, w2, w3⟩ := hw
    dsimp only at w1 w2 w3 hc
    by_cases hs : A > nC A B C ∨ A = nC A B C ∧ nB A B < 0
    · have e : stp (A, B, C) = (nC A B C, -nB A B, A) := by unfold stp; dsimp only; rw [if_pos hs]
      rcases hs with hs | ⟨t1, t2⟩
      · have h2A : 2 * A ≤ C := by
          rcases Int.lt_or_le C (2 * A) with g | g
          · have := half hv w1 w2 w3 g; omega
          · exact g
        have hr := nB_range (B := B) hv.a1
        obtain ⟨n, n1, n2⟩ := reach_sw m (nC A B C, -nB A B, A) (by rw [← e]; exact h.step) ⟨by dsimp only; omega, by dsimp only; omega, by dsimp only; omega⟩ (by
          dsimp only
          have e3 : ((2 : Int) ^ (m + 1)) = 2 ^ m * 2 := Int.pow_succ 2 m
          omega)
        exact ⟨n + 1, by omega, by show isRed (itr n (stp (A, B, C))); rw [e]; exact n2⟩
      · exact ⟨1, by omega, by show isRed (stp (A, B, C)); rw [e]; exact red_tie hv t1 t2⟩
    · have e : stp (A, B, C) = (A, nB A B, nC A B C) := by unfold stp; dsimp only; rw [if_neg hs]
      exact ⟨1, by omega, by show isRed (stp (A, B, C)); rw [e]; exact red_one hv hs⟩
theorem reach {f : F3} (h : VT f) : ∃ n, n ≤ 30 ∧ isRed (itr n f) := by
  obtain ⟨A, B, C⟩ := f
  have hv : VF A B C := h
  by_cases hs : A > nC A B C ∨ A = nC A B C ∧ nB A B < 0
  · have e : stp (A, B, C) = (nC A B C, -nB A B, A) := by unfold stp; dsimp only; rw [if_pos hs]
    have hr := nB_range (B := B) hv.a1
    have ha2 := hv.a2
    obtain ⟨n, n1, n2⟩ := reach_sw 17 (nC A B C, -nB A B, A) (by rw [← e]; exact h.step) ⟨by dsimp only; omega, by dsimp only; omega, by dsimp only; omega⟩ (by
      dsimp only
      have : (2 : Int) ^ 17 = 131072 := by decide
      omega)
    exact ⟨n + 1, by omega, by show isRed (itr n (stp (A, B, C))); rw [e]; exact n2⟩
  · have e : stp (A, B, C) = (A, nB A B, nC A B C) := by unfold stp; dsimp only; rw [if_neg hs]
    exact ⟨1, by omega, by show isRed (stp (A, B, C)); rw [e]; exact red_one hv hs⟩
/-- the reduced form -/
def rdF : Nat → F3 → F3
  | 0, f => f
  | m + 1, f => if isRed f then f else rdF m (stp f)
def rd (f : F3) : F3 := rdF 30 f
end Go.AM
namespace Go.AM
open Go
theorem evalA_bxR {x : AOpd} {tm : List AV} {h : AHeap} : evalA (.box x) tm h = some (.cells (ev tm x).cells true, .ptr h.next 0) := rfl
theorem evalA_alR {z : List AV} {tm : List AV} {h : AHeap} : evalA (.alloc z) tm h = some (.cells z true, .ptr h.next 0) := rfl
def faddrV (k : Nat) (x : AV) : Option AV := match x with | .ptr i o => some (.ptr i (o + k)) | _ => none
theorem evalQ_faddr {k : Nat} {x : AOpd} {tm : List AV} {h : AHeap} : evalQ (.faddr k x) tm h = faddrV k (ev tm x) := rfl
theorem faddrV_0 {i : Nat} : faddrV 0 (.ptr i 0) = some (.ptr i 0) := rfl
theorem faddrV_1 {i : Nat} : faddrV 1 (.ptr i 0) = some (.ptr i 1) := rfl
theorem faddrV_2 {i : Nat} : faddrV 2 (.ptr i 0) = some (.ptr i 2) := rfl
theorem cells_agg {l : List AV} : AV.cells (.agg l) = l := rfl
section
variable {h : AHeap} {i : Nat} {a b c : AV} {r : Bool}
theorem ld0 (hg : h.get i = some (.cells [a, b, c] r)) : loadV none (.ptr i 0) h = some a := loadV_at (cellsOf_get hg) rfl
theorem ld1 (hg : h.get i = some (.cells [a, b, c] r)) : loadV none (.ptr i 1) h = some b := loadV_at (cellsOf_get hg) rfl
theorem ld2 (hg : h.get i = some (.cells [a, b, c] r)) : loadV none (.ptr i 2) h = some c := loadV_at (cellsOf_get hg) rfl
theorem ldS (hg : h.get i = some (.cells [a, b, c] r)) : loadV (some 3) (.ptr i 0) h = some (.agg [a, b, c]) := by
  show (match cellsOf h i with | some c => fit (some 3) 0 c | none => none) = _
  rw [cellsOf_get hg]
  show (match cut [a, b, c] 0 3 with | some r => some (AV.agg r) | none => none) = _
  have : cut [a, b, c] 0 3 = some [a, b, c] := cut_all [a, b, c]
  rw [this]
end
/-- the value of a store -/
noncomputable def stV (n : Nat) (a x : AV) (h : AHeap) : Option (AV × AHeap) := evalE (.store n (.lit a) (.lit x)) (fun _ _ _ => none) [] h
theorem evalE_store {C : CallT} {n : Nat} {a x : AOpd} {tm : List AV} {h : AHeap} : evalE (.store n a x) C tm h = stV n (ev tm a) (ev tm x) h := rfl
theorem stV3 {h : AHeap} {i : Nat} {a b c x y z : AV} (hg : h.get i = some (.cells [a, b, c] true)) (hx : x.scalar = true) (hy : y.scalar = true) (hz : z.scalar = true) : stV 3 (.ptr i 0) (.agg [x, y, z]) h = some (aundef, h.set i (.cells [x, y, z] true)) := by
  have ho : ownOf h i = some [a, b, c] := by unfold ownOf; rw [hg]
  have hl : lay [a, b, c] 0 [x, y, z] = some [x, y, z] := by rw [lay_cons, lay_cons, lay_cons, lay_zero]
  unfold stV
  simp only [evalE, ev_lit, ho]
  show (if ([x, y, z] : List AV).length = 3 ∧ ([x, y, z] : List AV).all AV.scalar = true then (match lay [a, b, c] 0 [x, y, z] with | some c' => some (aundef, h.set i (.cells c' true)) | none => none) else none) = _
  rw [if_pos ⟨rfl, by simp [hx, hy, hz]⟩, hl]
section
variable {h : AHeap} {i : Nat} {a b c x : AV} (hg : h.get i = some (.cells [a, b, c] true)) (hx : x.scalar = true)
include hg hx
theorem stV10 : stV 1 (.ptr i 0) x h = some (aundef, h.set i (.cells [x, b, c] true)) := by
  have hc : x.cells = [x] := by cases x <;> simp_all [AV.cells, AV.scalar]
  have ho : ownOf h i = some [a, b, c] := by unfold ownOf; rw [hg]
  have hl : lay [a, b, c] 0 [x] = some [x, b, c] := by rw [lay_cons, lay_zero]
  unfold stV
  simp only [evalE, ev_lit, ho, hc]
  rw [if_pos ⟨rfl, by simp [hx]⟩, hl]
theorem stV11 : stV 1 (.ptr i 1) x h = some (aundef, h.set i (.cells [a, x, c] true)) := by
  have hc : x.cells = [x] := by cases x <;> simp_all [AV.cells, AV.scalar]
  have ho : ownOf h i = some [a, b, c] := by unfold ownOf; rw [hg]
  have hl : lay [a, b, c] 1 [x] = some [a, x, c] := by rw [lay_succ, lay_cons, lay_zero]
  unfold stV
  simp only [evalE, ev_lit, ho, hc]
  rw [if_pos ⟨rfl, by simp [hx]⟩, hl]
theorem stV12 : stV 1 (.ptr i 2) x h = some (aundef, h.set i (.cells [a, b, x] true)) := by
  have hc : x.cells = [x] := by cases x <;> simp_all [AV.cells, AV.scalar]
  have ho : ownOf h i = some [a, b, c] := by unfold ownOf; rw [hg]
  have hl : lay [a, b, c] 2 [x] = some [a, b, x] := by rw [lay_succ, lay_succ, lay_cons, lay_zero]
  unfold stV
  simp only [evalE, ev_lit, ho, hc]
  rw [if_pos ⟨rfl, by simp [hx]⟩, hl]
end
theorem result_cell {a : Nat} {tm : List AV} {h : AHeap} {v : AV} (hl : loadV (some 3) (nth tm a) h = some v) : result [.cell a (some 3)] tm h = some v := by
  have e : resOf tm h (.cell a (some 3)) = some v := hl
  simp only [result, resOfs, e]
/-- a form as a value -/
abbrev fV (A B C : Int) : AV := .agg [.int .i64 A, .int .i64 B, .int .i64 C]
abbrev fC (A B C : Int) : List AV := [.int .i64 A, .int .i64 B, .int .i64 C]
theorem mul_le_abs {x y X Y : Int} (h1 : -X ≤ x) (h2 : x ≤ X) (h3 : -Y ≤ y) (h4 : y ≤ Y) : -(X * Y) ≤ x * y ∧ x * y ≤ X * Y := by
  have h : x.natAbs * y.natAbs ≤ X.toNat * Y.toNat := Nat.mul_le_mul (by omega) (by omega)
  have e1 : ((x * y).natAbs : Int) = ((x.natAbs * y.natAbs : Nat) : Int) := by rw [Int.natAbs_mul]
  have e2 : X * Y = ((X.toNat * Y.toNat : Nat) : Int) := by rw [Int.natCast_mul, Int.toNat_of_nonneg (by omega), Int.toNat_of_nonneg (by omega)]
  omega
def lim5 (x : Int) : Prop := -100000 ≤ x ∧ x ≤ 100000
instance (x : Int) : Decidable (lim5 x) := by unfold lim5; infer_instance

def limC (x : Int) : Prop := -12500000000 ≤ x ∧ x ≤ 12500000000
instance (x : Int) : Decidable (limC x) := by unfold limC; infer_instance
theorem lim5.C {x : Int} (h : lim5 x) : limC x := by unfold lim5 at h; unfold limC; omega
/-- Disc -/
def discS : List AV → Option AV
  | [.agg [.int .i64 A, .int .i64 B, .int .i64 C]] => if lim5 A ∧ lim5 B ∧ limC C then some (.int .i64 (B * B - 4 * A * C)) else none
  | _ => none
theorem disc_run {A B C : Int} (ha : lim5 A) (hb : lim5 B) (hc : limC C) : ∃ h', lim otab.get I12 (.fn 34) [fV A B C] .empty = some (.int .i64 (B * B - 4 * A * C), h') := by
  refine run_of (fn := of34) rfl rfl ?_
  show WK _ _ [] ⟨[fV A B C, aundef, aundef], .empty⟩ _
  dsimp only [of34]
  have h1 := mul_le_abs hb.1 hb.2 hb.1 hb.2
  have h2 := mul_le_abs (x := 4 * A) (y := C) (X := 400000) (Y := 12500000000) (by have := ha.1; omega) (by have := ha.2; omega) hc.1 hc.2
  have ha1 := ha.1
  have ha2 := ha.2
  have g0 : (AHeap.empty.push (.cells (fC A B C) true)).get 0 = some (.cells (fC A B C) true) := AHeap.get_push_same AHeap.empty _
  simp (disch := omega) only [RSd.down, WOs_box, evalA_bxR, cells_agg, WOs_faddr, evalQ_faddr, faddrV_0, faddrV_1, faddrV_2, ld0 g0, ld1 g0, ld2 g0, mul_i64, sub_i64, Ret_ret, result_1]
noncomputable def K1 : Oracle := ext I12 34 discS
theorem K1_ok : IOK Go.Proofs.Try.prog K1 := IOK.extL mixed tabOK otabOK I12_ok (g := 34) (fn := af34) rfl fun args av h => by
  unfold discS at h
  split at h
  · split at h
    · rename_i hn; cases h; exact ⟨rfl, rfl, disc_run hn.1 hn.2.1 hn.2.2⟩
    · cases h
  · cases h
def posS : List AV → Option AV
  | [.agg [.int .i64 A, .int .i64 B, .int .i64 C]] => if lim5 A ∧ lim5 B ∧ lim5 C then some (.bool (decide (B * B - 4 * A * C < 0 ∧ 0 < A))) else none
  | _ => none
theorem pos_run {A B C : Int} (ha : lim5 A) (hb : lim5 B) (hc : lim5 C) : ∃ h', lim otab.get K1 (.fn 26) [fV A B C] .empty = some (.bool (decide (B * B - 4 * A * C < 0 ∧ 0 < A)), h') := by
  refine run_of (fn := of26) rfl rfl ?_
  show WK _ _ [] ⟨[fV A B C, aundef], .empty⟩ _
  dsimp only [of26]
  have g0 : (AHeap.empty.push (.cells (fC A B C) true)).get 0 = some (.cells (fC A B C) true) := AHeap.get_push_same AHeap.empty _
  have cd : ∀ h, lim otab.get K1 (.fn 34) [fV A B C] h = some (.int .i64 (B * B - 4 * A * C), h) := fun h => lim_oracle (or_hit (spec := discS) (if_pos ⟨ha, hb, hc.C⟩))
  by_cases e1 : B * B - 4 * A * C < 0
  · simp only [RSd.down, WOs_box, evalA_bxR, cells_agg, WOs_faddr, evalQ_faddr, faddrV_0, ld0 g0, ldS g0, cd, lss_int, gtr_int, e1, decide_true, true_and, Ret_ret, result_1]
  · simp only [RSd.down, WOs_box, evalA_bxR, cells_agg, WOs_faddr, evalQ_faddr, faddrV_0, ld0 g0, ldS g0, cd, lss_int, gtr_int, e1, decide_false, false_and, Ret_ret, result_1]
noncomputable def K2 : Oracle := ext K1 26 posS
theorem K2_ok : IOK Go.Proofs.Try.prog K2 := IOK.extL mixed tabOK otabOK K1_ok (g := 26) (fn := af26) rfl fun args av h => by
  unfold posS at h
  split at h
  · split at h
    · rename_i hn; cases h; exact ⟨rfl, rfl, pos_run hn.1 hn.2.1 hn.2.2⟩
    · cases h
  · cases h
def isRedS : List AV → Option AV
  | [.agg [.int .i64 A, .int .i64 B, .int .i64 C]] => if small A ∧ small B ∧ small C then some (.bool (decide (isRed (A, B, C)))) else none
  | _ => none
theorem isRed_run {A B C : Int} (hb : small B) : ∃ h', lim otab.get K2 (.fn 33) [fV A B C] .empty = some (.bool (decide (isRed (A, B, C))), h') := by
  refine run_of (fn := of33) rfl rfl ?_
  show WK _ _ [] ⟨[fV A B C, aundef, aundef, aundef, aundef], .empty⟩ _
  dsimp only [of33]
  have g0 : (AHeap.empty.push (.cells (fC A B C) true)).get 0 = some (.cells (fC A B C) true) := AHeap.get_push_same AHeap.empty _
  have cb : ∀ h, lim otab.get K2 (.fn 44) [.int .i64 B] h = some (.int .i64 (B.natAbs : Int), h) := fun h => lim_oracle (or_hit (spec := absS) (if_pos hb))
  by_cases e1 : (B.natAbs : Int) ≤ A
  · by_cases e2 : A ≤ C
    · by_cases e3 : 0 ≤ B
      · have : isRed (A, B, C) := ⟨e1, e2, .inl e3⟩
        simp only [RSd.down, WOs_box, evalA_bxR, cells_agg, WOs_faddr, evalQ_faddr, faddrV_0, faddrV_1, faddrV_2, ld0 g0, ld1 g0, ld2 g0, cb, leq_int, geq_int, neq_int, e1, e2, e3, decide_true, Ret_ret, result_1, this]
      · by_cases e4 : (B.natAbs : Int) ≠ A
        · have e4t : ((B.natAbs : Int) ≠ A) = True := eq_true e4
          have : isRed (A, B, C) ↔ A ≠ C := by unfold isRed; dsimp only; omega
          simp only [RSd.down, WOs_box, evalA_bxR, cells_agg, WOs_faddr, evalQ_faddr, faddrV_0, faddrV_1, faddrV_2, ld0 g0, ld1 g0, ld2 g0, cb, leq_int, geq_int, neq_int, e1, e2, e3, e4t, decide_true, decide_false, Ret_ret, result_1, decide_eq_decide.2 this]
        · have : ¬ isRed (A, B, C) := by unfold isRed; dsimp only; omega
          simp only [RSd.down, WOs_box, evalA_bxR, cells_agg, WOs_faddr, evalQ_faddr, faddrV_0, faddrV_1, faddrV_2, ld0 g0, ld1 g0, ld2 g0, cb, leq_int, geq_int, neq_int, e1, e2, e3, e4, decide_true, decide_false, Ret_ret, result_1, this]
    · have : ¬ isRed (A, B, C) := fun h => e2 h.2.1
      simp only [RSd.down, WOs_box, evalA_bxR, cells_agg, WOs_faddr, evalQ_faddr, faddrV_0, faddrV_1, faddrV_2, ld0 g0, ld1 g0, ld2 g0, cb, leq_int, geq_int, neq_int, e1, e2, decide_true, decide_false, Ret_ret, result_1, this]
  · have : ¬ isRed (A, B, C) := fun h => e1 h.1
    simp only [RSd.down, WOs_box, evalA_bxR, cells_agg, WOs_faddr, evalQ_faddr, faddrV_0, faddrV_1, faddrV_2, ld0 g0, ld1 g0, ld2 g0, cb, leq_int, geq_int, neq_int, e1, decide_false, Ret_ret, result_1, this]
noncomputable def K3 : Oracle := ext K2 33 isRedS
theorem K3_ok : IOK Go.Proofs.Try.prog K3 := IOK.extL mixed tabOK otabOK K2_ok (g := 33) (fn := af33) rfl fun args av h => by
  unfold isRedS at h
  split at h
  · split at h
    · rename_i hn; cases h; exact ⟨rfl, rfl, isRed_run hn.2.1⟩
    · cases h
  · cases h
def floorS : List AV → Option AV
  | [.int .i64 a, .int .i64 b] => if small a ∧ 0 < b ∧ b ≤ 4611686018427387904 then some (.int .i64 (a / b)) else none
  | _ => none
theorem floor_run {a b : Int} (ha : small a) (hb : 0 < b) (hb2 : b ≤ 4611686018427387904) : ∃ h', lim otab.get K3 (.fn 60) [.int .i64 a, .int .i64 b] .empty = some (.int .i64 (a / b), h') := by
  refine run_of (fn := of60) rfl rfl ?_
  show WK _ _ [] ⟨[.int .i64 a, .int .i64 b, aundef], .empty⟩ _
  dsimp only [of60]
  have cm : ∀ h, lim otab.get K3 (.fn 36) [.int .i64 a, .int .i64 b] h = some (.int .i64 (a % b), h) := fun h => lim_oracle (or_hit (spec := modS) (if_pos ⟨hb, hb2⟩))
  have h1 := Int.emod_nonneg a (show b ≠ 0 by omega)
  have h2 := Int.emod_lt_of_pos a hb
  have h3 : a - a % b = b * (a / b) := by have := Int.emod_add_mul_ediv a b; omega
  have h4 : (a - a % b).tdiv b = a / b := by rw [h3, Int.mul_tdiv_cancel_left _ (by omega)]
  have ha1 := ha.1
  have ha2 := ha.2
  have h5 : -4611686018427387904 ≤ a / b := by
    have := Int.le_ediv_of_mul_le (a := -4611686018427387904) (b := a) (c := b) hb (by
      have : (1 : Int) * 4611686018427387904 ≤ b * 4611686018427387904 := Int.mul_le_mul_of_nonneg_right (by omega) (by omega)
      omega)
    exact this
  have h6 : a / b ≤ 4611686018427387904 := by
    rcases Int.lt_or_le a 0 with e | e
    · have := Int.ediv_neg_of_neg_of_pos e hb; omega
    · have := Int.ediv_le_self b e; omega
  simp (disch := omega) only [RSd.down, cm, sub_i64, quo_i64 (show b ≠ 0 by omega), h4, Ret_ret, result_1]
noncomputable def K4 : Oracle := ext K3 60 floorS
theorem K4_ok : IOK Go.Proofs.Try.prog K4 := IOK.extL mixed tabOK otabOK K3_ok (g := 60) (fn := af60) rfl fun args av h => by
  unfold floorS at h
  split at h
  · split at h
    · rename_i hn; cases h; exact ⟨rfl, rfl, floor_run hn.1 hn.2.1 hn.2.2⟩
    · cases h
  · cases h
/-- bounds on the way of a step -/
theorem VF.bds {A B C : Int} (h : VF A B C) : -200000 ≤ 2 * A * nk A B ∧ 2 * A * nk A B ≤ 200000 ∧ -100000 ≤ A * nk A B ∧ A * nk A B ≤ 100000 ∧ -100000 ≤ nk A B ∧ nk A B ≤ 100000 ∧ -10000000000 ≤ A * nk A B * nk A B ∧ A * nk A B * nk A B ≤ 10000000000 ∧ -10000000000 ≤ B * nk A B ∧ B * nk A B ≤ 10000000000 ∧ 2 * nk A B * A = 2 * A * nk A B := by
  have hr := nB_range (B := B) h.a1
  unfold nB at hr
  have a1 := h.a1
  have a2 := h.a2
  have b1 := h.b1
  have b2 := h.b2
  generalize nk A B = k at hr ⊢
  have e1 : 2 * A * k = 2 * (A * k) := Int.mul_assoc 2 A k
  have e2 : 2 * k * A = 2 * A * k := by rw [Int.mul_assoc, Int.mul_comm k A, ← Int.mul_assoc]
  have k1 : -100000 ≤ A * k := by omega
  have k2 : A * k ≤ 100000 := by omega
  have k3 : -100000 ≤ k := by
    rcases Int.lt_or_le k 0 with e | e
    · have : A * k ≤ 1 * k := Int.mul_le_mul_of_nonpos_right a1 (by omega)
      omega
    · omega
  have k4 : k ≤ 100000 := by
    rcases Int.lt_or_le 0 k with e | e
    · have : 1 * k ≤ A * k := Int.mul_le_mul_of_nonneg_right a1 (by omega)
      omega
    · omega
  have m1 := mul_le_abs k1 k2 k3 k4
  have m2 := mul_le_abs b1 b2 k3 k4
  refine ⟨by omega, by omega, k1, k2, k3, k4, by omega, by omega, by omega, by omega, e2⟩
end Go.AM
namespace Go.AM
open Go
section
variable {h : AHeap} {i : Nat} {a b c : AV} {k : IntKind} {n : Int} {r : Bool}
theorem ldr0 : loadV none (.ptr i 0) (h.set i (.cells [a, b, c] r)) = some a := ld0 (AHeap.get_set_same _ _ _)
theorem ldr1 : loadV none (.ptr i 1) (h.set i (.cells [a, b, c] r)) = some b := ld1 (AHeap.get_set_same _ _ _)
theorem ldr2 : loadV none (.ptr i 2) (h.set i (.cells [a, b, c] r)) = some c := ld2 (AHeap.get_set_same _ _ _)
theorem ldrS : loadV (some 3) (.ptr i 0) (h.set i (.cells [a, b, c] r)) = some (.agg [a, b, c]) := ldS (AHeap.get_set_same _ _ _)
theorem sts0 : stV 1 (.ptr i 0) (.int k n) (h.set i (.cells [a, b, c] true)) = some (aundef, (h.set i (.cells [a, b, c] true)).set i (.cells [.int k n, b, c] true)) := stV10 (AHeap.get_set_same _ _ _) rfl
theorem sts1 : stV 1 (.ptr i 1) (.int k n) (h.set i (.cells [a, b, c] true)) = some (aundef, (h.set i (.cells [a, b, c] true)).set i (.cells [a, .int k n, c] true)) := stV11 (AHeap.get_set_same _ _ _) rfl
theorem sts2 : stV 1 (.ptr i 2) (.int k n) (h.set i (.cells [a, b, c] true)) = some (aundef, (h.set i (.cells [a, b, c] true)).set i (.cells [a, b, .int k n] true)) := stV12 (AHeap.get_set_same _ _ _) rfl
end
theorem get10 {h : AHeap} {o : AObj} : (h.set 0 o).get 1 = h.get 1 := AHeap.get_set_ne h o (by decide)
abbrev fCt (f : F3) : List AV := fC f.1 f.2.1 f.2.2
abbrev fVt (f : F3) : AV := fV f.1 f.2.1 f.2.2
section
variable {K : List Fr} {Q : AX → St → Prop}
theorem c_isRed4 {A B C : Int} {h : AHeap} (hv : VF A B C) : lim otab.get K4 (.fn 33) [fV A B C] h = some (.bool (decide (isRed (A, B, C))), h) := by
  have hc := hv.c
  have a1 := hv.a1
  have a2 := hv.a2
  have b1 := hv.b1
  have b2 := hv.b2
  exact lim_oracle (or_hit (spec := isRedS) (if_pos ⟨by unfold small; omega, by unfold small; omega, by unfold small; omega⟩))
theorem c_floor4 {A B : Int} {h : AHeap} (a1 : 1 ≤ A) (a2 : A ≤ 100000) (b1 : -100000 ≤ B) (b2 : B ≤ 100000) : lim otab.get K4 (.fn 60) [.int .i64 (A - B), .int .i64 (2 * A)] h = some (.int .i64 (nk A B), h) :=
  lim_oracle (or_hit (spec := floorS) (if_pos ⟨by unfold small; omega, by omega, by omega⟩))
noncomputable def rredB : ACode := match of27.body with | .seq _ (.seq (.seq _ (.block _ (.loop b))) _) => b | c => c
theorem rred_loop {u v w : AV} : ∀ (m n : Nat) (f : F3) (h : AHeap) (y1 y2 y4 y5 : AV), VT f → (∃ j, j ≤ m ∧ isRed (itr j f)) → n + m ≤ 900 → h.get 0 = some (.cells (fCt f) true) → h.get 1 = some (.cells [u, v, w] true) →
    (∀ (h' : AHeap) (z1 z2 z3 z4 z5 : AV), h'.get 0 = some (.cells (fCt (rdF m f)) true) → h'.get 1 = some (.cells [u, v, w] true) → WX (lim otab.get K4) (.exit 0) K ⟨[.ptr 0 0, z1, z2, z3, z4, z5, .ptr 1 0], h'⟩ Q) →
    WK (lim otab.get K4) (.loop rredB) K ⟨[.ptr 0 0, y1, y2, .int .i64 (n : Int), y4, y5, .ptr 1 0], h⟩ Q := by
  intro m
  induction m with
  | zero =>
    intro n f h y1 y2 y4 y5 hf hj hn g0 g1 hQ
    obtain ⟨A, B, C⟩ := f
    obtain ⟨j, j1, j2⟩ := hj
    have hj0 : j = 0 := by omega
    subst hj0
    have hr : isRed (A, B, C) := j2
    refine WK_loop' (by dsimp only [rredB, of27]) ?_
    have e1 : (n : Int) < 1000 := by omega
    simp only [RSd.down, lss_int, e1, decide_true, ldS g0, c_isRed4 hf, hr, not_bool, Bool.not_true]
    exact hQ h _ _ _ _ _ g0 g1
  | succ m ih =>
    intro n f h y1 y2 y4 y5 hf hj hn g0 g1 hQ
    obtain ⟨A, B, C⟩ := f
    have hv : VF A B C := hf
    refine WK_loop' (by dsimp only [rredB, of27]) ?_
    have e1 : (n : Int) < 1000 := by omega
    unfold rdF at hQ
    by_cases hr : isRed (A, B, C)
    · rw [if_pos hr] at hQ
      simp only [RSd.down, lss_int, e1, decide_true, ldS g0, c_isRed4 hf, hr, not_bool, Bool.not_true]
      exact hQ h _ _ _ _ _ g0 g1
    · rw [if_neg hr] at hQ
      obtain ⟨j, j1, j2⟩ := hj
      have hj' : ∃ j, j ≤ m ∧ isRed (itr j (stp (A, B, C))) := by
        cases j with
        | zero => exact absurd j2 hr
        | succ j => exact ⟨j, by omega, j2⟩
      have hstep := hf.step
      obtain ⟨q1, q2, q3, q4, q5, q6, q7, q8, q9, q10, q11⟩ := hv.bds
      have a1 := hv.a1
      have a2 := hv.a2
      have b1 := hv.b1
      have b2 := hv.b2
      have hc := hv.c
      have hc' := hv.norm.c
      have hnr := nB_range (B := B) a1
      have hnB : B + 2 * nk A B * A = nB A B := by unfold nB; rw [q11]
      have hnC : A * nk A B * nk A B + B * nk A B + C = nC A B C := rfl
      have hnC0 : nC A B C = A * nk A B * nk A B + B * nk A B + C := rfl
      have hnB0 : nB A B = B + 2 * A * nk A B := rfl
      have hs1 := stV12 (x := .int .i64 (nC A B C)) g0 rfl
      simp (disch := omega) only [RSd.down, lss_int, e1, decide_true, ldS g0, c_isRed4 hf, hr, decide_false, not_bool, Bool.not_false, WOs_faddr, evalQ_faddr, faddrV_0, faddrV_1, faddrV_2, ld0 g0, ld1 g0, ld2 g0, sub_i64, mul_i64, c_floor4 a1 a2 b1 b2, add_i64, hnC, evalE_store, hs1, ldr0, ldr1, ldr2, hnB, sts1, gtr_int, eql_int]
      have next : ∀ (h2 : AHeap) (z1 z2 z4 z5 : AV), h2.get 0 = some (.cells (fCt (stp (A, B, C))) true) → h2.get 1 = some (.cells [u, v, w] true) →
          WK (lim otab.get K4) (.loop rredB) K ⟨[.ptr 0 0, z1, z2, .int .i64 ((n + 1 : Nat) : Int), z4, z5, .ptr 1 0], h2⟩ Q := fun h2 z1 z2 z4 z5 k0 k1 => ih (n + 1) (stp (A, B, C)) h2 z1 z2 z4 z5 hstep hj' (by omega) k0 k1 hQ
      have en : (n : Int) + 1 = ((n + 1 : Nat) : Int) := rfl
      by_cases s1 : nC A B C < A
      · have es : stp (A, B, C) = (nC A B C, -nB A B, A) := by unfold stp; dsimp only; rw [if_pos (.inl s1)]
        simp (disch := omega) only [s1, decide_true, RSd.down, WOs_faddr, evalQ_faddr, faddrV_0, faddrV_1, faddrV_2, ldr0, ldr1, ldr2, neg_i64, evalE_store, sts0, sts1, sts2, add_i64, en]
        refine next _ _ _ _ _ ?_ ?_
        · rw [es]; exact AHeap.get_set_same _ _ _
        · simp only [get10]; exact g1
      · by_cases s2 : A = nC A B C
        · by_cases s3 : nB A B < 0
          · have es : stp (A, B, C) = (nC A B C, -nB A B, A) := by unfold stp; dsimp only; rw [if_pos (.inr ⟨s2, s3⟩)]
            have s2' : (A = nC A B C) = True := eq_true s2
            simp (disch := omega) only [s1, s2', s3, decide_true, decide_false, RSd.down, WOs_faddr, evalQ_faddr, faddrV_0, faddrV_1, faddrV_2, ldr0, ldr1, ldr2, eql_int, lss_int, neg_i64, evalE_store, sts0, sts1, sts2, add_i64, en]
            refine next _ _ _ _ _ ?_ ?_
            · rw [es]; exact AHeap.get_set_same _ _ _
            · simp only [get10]; exact g1
          · have es : stp (A, B, C) = (A, nB A B, nC A B C) := by unfold stp; dsimp only; rw [if_neg (by omega)]
            have s2' : (A = nC A B C) = True := eq_true s2
            simp (disch := omega) only [s1, s2', s3, decide_true, decide_false, RSd.down, WOs_faddr, evalQ_faddr, faddrV_0, faddrV_1, faddrV_2, ldr0, ldr1, ldr2, eql_int, lss_int, add_i64, en]
            refine next _ _ _ _ _ ?_ ?_
            · rw [es]; exact AHeap.get_set_same _ _ _
            · simp only [get10]; exact g1
        · have es : stp (A, B, C) = (A, nB A B, nC A B C) := by unfold stp; dsimp only; rw [if_neg (by omega)]
          have s2' : (A = nC A B C) = False := eq_false s2
          simp (disch := omega) only [s1, s2', decide_false, RSd.down, WOs_faddr, evalQ_faddr, faddrV_0, faddrV_1, faddrV_2, ldr0, ldr1, ldr2, eql_int, add_i64, en]
          refine next _ _ _ _ _ ?_ ?_
          · rw [es]; exact AHeap.get_set_same _ _ _
          · simp only [get10]; exact g1
end
noncomputable def rredS : List AV → Option AV
  | [.agg [.int .i64 A, .int .i64 B, .int .i64 C]] => open Classical in if VF A B C then some (fVt (rd (A, B, C))) else none
  | _ => none
theorem rred_run {A B C : Int} (hv : VF A B C) : ∃ h', lim otab.get K4 (.fn 27) [fV A B C] .empty = some (fVt (rd (A, B, C)), h') := by
  refine run_of (fn := of27) rfl rfl ?_
  show WK _ _ [] ⟨[fV A B C, aundef, aundef, aundef, aundef, aundef, aundef], .empty⟩ _
  dsimp only [of27]
  have g0 : ((AHeap.empty.push (.cells (fC A B C) true)).push (.cells [.int .i64 0, .int .i64 0, .int .i64 0] true)).get 0 = some (.cells (fC A B C) true) := by
    rw [AHeap.get_push_lt _ _ (by simp)]; exact AHeap.get_push_same AHeap.empty _
  have g1 : ((AHeap.empty.push (.cells (fC A B C) true)).push (.cells [.int .i64 0, .int .i64 0, .int .i64 0] true)).get 1 = some (.cells [.int .i64 0, .int .i64 0, .int .i64 0] true) := AHeap.get_push_same (AHeap.empty.push (.cells (fC A B C) true)) _
  simp only [RSd.down, WOs_box, evalA_bxR, cells_agg, evalA_alR, AHeap.next_push, Nat.zero_add]
  refine rred_loop 30 0 (A, B, C) _ _ _ _ _ hv (reach hv) (by omega) g0 g1 fun h' z1 z2 z3 z4 z5 k0 k1 => ?_
  have k0' : h'.get 0 = some (.cells (fCt (rd (A, B, C))) true) := k0
  have hs := stV3 (x := .int .i64 (rd (A, B, C)).1) (y := .int .i64 (rd (A, B, C)).2.1) (z := .int .i64 (rd (A, B, C)).2.2) k1 rfl rfl rfl
  simp only [RSd.down, ldS k0', evalE_store, hs, Ret_ret]
  exact result_cell ldrS
noncomputable def K5 : Oracle := ext K4 27 rredS
theorem K5_ok : IOK Go.Proofs.Try.prog K5 := IOK.extL mixed tabOK otabOK K4_ok (g := 27) (fn := af27) rfl fun args av h => by
  unfold rredS at h
  split at h
  · split at h
    · rename_i hn; cases h; exact ⟨rfl, rfl, rred_run hn⟩
    · cases h
  · cases h
end Go.AM
namespace Go.AM
open Go
theorem build3 {tm : List AV} {h : AHeap} {x y w : AOpd} {z0 z1 z2 : AV} {a b c : Int} (hx : ev tm x = .int .i64 a) (hy : ev tm y = .int .i64 b) (hw : ev tm w = .int .i64 c) : evalQ (.build [z0, z1, z2] [(0, (1, x)), (1, (1, y)), (2, (1, w))]) tm h = some (fV a b c) := by
  simp only [evalQ, fills, hx, hy, hw]
  rfl
theorem k_bound {A k X : Int} (hA : 1 ≤ A) (h1 : -X ≤ 2 * A * k) (h2 : 2 * A * k ≤ X) : -X ≤ k ∧ k ≤ X := by
  have e : 2 * A * k = 2 * (A * k) := Int.mul_assoc 2 A k
  constructor
  · rcases Int.lt_or_le k 0 with g | g
    · have : A * k ≤ 1 * k := Int.mul_le_mul_of_nonpos_right hA (by omega)
      omega
    · omega
  · rcases Int.lt_or_le 0 k with g | g
    · have : 1 * k ≤ A * k := Int.mul_le_mul_of_nonneg_right hA (by omega)
      omega
    · omega
section
variable {CC : CallT} {K : List Fr} {Q : AX → St → Prop} {h : AHeap} {A B C : Int}
noncomputable def st1B : ACode := match of59.body with | .seq _ (.seq _ (.seq (.block _ (.loop b)) _)) => b | c => c
noncomputable def st2B : ACode := match of59.body with | .seq _ (.seq _ (.seq _ (.seq (.block _ (.loop b)) _))) => b | c => c
noncomputable def stR : ACode := match of59.body with | .seq _ (.seq _ (.seq _ (.seq _ r))) => r | c => c
theorem st1_loop (g0 : h.get 0 = some (.cells (fC A B C) true)) (hA : 1 ≤ A) (hA2 : A ≤ 100000) (b1 : -100000 ≤ B) (b2 : B ≤ 100000) : ∀ (f : Nat) (k : Int) (y2 y3 y4 y5 y6 : AV), -A < B + 2 * A * k → B + 2 * A * k ≤ 100000 → B + 2 * A * k - A ≤ 2 * (f : Int) →
    (∀ z2 z3 : AV, WX CC (.exit 0) K ⟨[.ptr 0 0, .int .i64 (nk A B), z2, z3, y4, y5, y6], h⟩ Q) →
    WK CC (.loop st1B) K ⟨[.ptr 0 0, .int .i64 k, y2, y3, y4, y5, y6], h⟩ Q := by
  intro f
  induction f with
  | zero =>
    intro k y2 y3 y4 y5 y6 l1 l2 l3 hQ
    have hk := k_bound (k := k) (X := 300000) hA (by omega) (by omega)
    refine WK_loop' (by dsimp only [st1B, of59]) ?_
    have e1 : ¬ A < B + 2 * A * k := by omega
    simp (disch := omega) only [RSd.down, WOs_faddr, evalQ_faddr, faddrV_0, faddrV_1, ld0 g0, ld1 g0, mul_i64, add_i64, gtr_int, e1, decide_false]
    rw [nk_unique hA l1 (by omega)]
    exact hQ _ _
  | succ f ih =>
    intro k y2 y3 y4 y5 y6 l1 l2 l3 hQ
    have hk := k_bound (k := k) (X := 300000) hA (by omega) (by omega)
    refine WK_loop' (by dsimp only [st1B, of59]) ?_
    by_cases e1 : A < B + 2 * A * k
    · have q0 : 0 ≤ (B + 2 * A * k - A) / (2 * A) := Int.ediv_nonneg (by omega) (by omega)
      have q1 : (B + 2 * A * k - A) / (2 * A) ≤ B + 2 * A * k - A := Int.ediv_le_self _ (by omega)
      have q2 : 2 * A * ((B + 2 * A * k - A) / (2 * A)) ≤ B + 2 * A * k - A := Int.mul_ediv_self_le (by omega)
      generalize hq : (B + 2 * A * k - A) / (2 * A) = q at q0 q1 q2
      have hm : 1 ≤ (if q > 1 then q else 1) := by split <;> omega
      have hm2 : (if q > 1 then q else 1) ≤ 200000 := by split <;> omega
      have hm3 : -A < B + 2 * A * k - 2 * A * (if q > 1 then q else 1) := by split <;> omega
      have hm4 : 2 * A * 1 ≤ 2 * A * (if q > 1 then q else 1) := Int.mul_le_mul_of_nonneg_left hm (by omega)
      simp (disch := omega) only [RSd.down, WOs_faddr, evalQ_faddr, faddrV_0, faddrV_1, ld0 g0, ld1 g0, mul_i64, add_i64, sub_i64, gtr_int, e1, decide_true, quo_pos, hq, max_int]
      have e2 := Int.mul_sub (2 * A) k (if q > 1 then q else 1)
      exact ih (k - (if q > 1 then q else 1)) _ _ _ _ _ (by omega) (by omega) (by omega) hQ
    · simp (disch := omega) only [RSd.down, WOs_faddr, evalQ_faddr, faddrV_0, faddrV_1, ld0 g0, ld1 g0, mul_i64, add_i64, gtr_int, e1, decide_false]
      rw [nk_unique hA l1 (by omega)]
      exact hQ _ _
theorem st2_loop (g0 : h.get 0 = some (.cells (fC A B C) true)) (hA : 1 ≤ A) (hA2 : A ≤ 100000) (b1 : -100000 ≤ B) (b2 : B ≤ 100000) : ∀ (f : Nat) (k : Int) (y2 y3 y4 y5 y6 : AV), B + 2 * A * k ≤ A → -100000 ≤ B + 2 * A * k → -A < B + 2 * A * k + 2 * (f : Int) →
    (∀ z2 z3 : AV, WX CC (.exit 2) K ⟨[.ptr 0 0, .int .i64 (nk A B), z2, z3, y4, y5, y6], h⟩ Q) →
    WK CC (.loop st2B) K ⟨[.ptr 0 0, .int .i64 k, y2, y3, y4, y5, y6], h⟩ Q := by
  intro f
  induction f with
  | zero =>
    intro k y2 y3 y4 y5 y6 l1 l2 l3 hQ
    have hk := k_bound (k := k) (X := 300000) hA (by omega) (by omega)
    refine WK_loop' (by dsimp only [st2B, of59]) ?_
    have e1 : ¬ B + 2 * A * k ≤ -A := by omega
    simp (disch := omega) only [RSd.down, WOs_faddr, evalQ_faddr, faddrV_0, faddrV_1, ld0 g0, ld1 g0, mul_i64, add_i64, neg_i64, leq_int, e1, decide_false]
    rw [nk_unique hA (by omega) l1]
    exact hQ _ _
  | succ f ih =>
    intro k y2 y3 y4 y5 y6 l1 l2 l3 hQ
    have hk := k_bound (k := k) (X := 300000) hA (by omega) (by omega)
    refine WK_loop' (by dsimp only [st2B, of59]) ?_
    by_cases e1 : B + 2 * A * k ≤ -A
    · have q0 : 0 ≤ (-A - B - 2 * A * k) / (2 * A) := Int.ediv_nonneg (by omega) (by omega)
      have q1 : (-A - B - 2 * A * k) / (2 * A) ≤ -A - B - 2 * A * k := Int.ediv_le_self _ (by omega)
      have q2 : 2 * A * ((-A - B - 2 * A * k) / (2 * A)) ≤ -A - B - 2 * A * k := Int.mul_ediv_self_le (by omega)
      generalize hq : (-A - B - 2 * A * k) / (2 * A) = q at q0 q1 q2
      have hm : 1 ≤ (if q > 1 then q else 1) := by split <;> omega
      have hm2 : (if q > 1 then q else 1) ≤ 300000 := by split <;> omega
      have hm3 : B + 2 * A * k + 2 * A * (if q > 1 then q else 1) ≤ A := by split <;> omega
      have hm4 : 2 * A * 1 ≤ 2 * A * (if q > 1 then q else 1) := Int.mul_le_mul_of_nonneg_left hm (by omega)
      simp (disch := omega) only [RSd.down, WOs_faddr, evalQ_faddr, faddrV_0, faddrV_1, ld0 g0, ld1 g0, mul_i64, add_i64, sub_i64, neg_i64, leq_int, e1, decide_true, quo_pos, hq, max_int]
      have e2 := Int.mul_add (2 * A) k (if q > 1 then q else 1)
      exact ih (k + (if q > 1 then q else 1)) _ _ _ _ _ (by omega) (by omega) (by omega) hQ
    · simp (disch := omega) only [RSd.down, WOs_faddr, evalQ_faddr, faddrV_0, faddrV_1, ld0 g0, ld1 g0, mul_i64, add_i64, neg_i64, leq_int, e1, decide_false]
      rw [nk_unique hA (by omega) l1]
      exact hQ _ _
end
noncomputable def stpS : List AV → Option AV
  | [.agg [.int .i64 A, .int .i64 B, .int .i64 C]] => open Classical in if VF A B C then some (fVt (stp (A, B, C))) else none
  | _ => none
theorem stp_run {A B C : Int} (hv : VF A B C) : ∃ h', lim otab.get K5 (.fn 59) [fV A B C] .empty = some (fVt (stp (A, B, C)), h') := by
  refine run_of (fn := of59) rfl rfl ?_
  show WK _ _ [] ⟨[fV A B C, aundef, aundef, aundef, aundef, aundef, aundef], .empty⟩ _
  dsimp only [of59]
  obtain ⟨H, hH⟩ : ∃ H, H = (AHeap.empty.push (.cells (fC A B C) true)).push (.cells [.int .i64 0, .int .i64 0, .int .i64 0] true) := ⟨_, rfl⟩
  have g0 : H.get 0 = some (.cells (fC A B C) true) := by
    rw [hH, AHeap.get_push_lt _ _ (by simp)]; exact AHeap.get_push_same AHeap.empty _
  have g1 : H.get 1 = some (.cells [.int .i64 0, .int .i64 0, .int .i64 0] true) := by
    rw [hH]; exact AHeap.get_push_same (AHeap.empty.push (.cells (fC A B C) true)) _
  have hnx : H.next = 2 := by rw [hH]; rfl
  simp only [RSd.down, WOs_box, evalA_bxR, cells_agg, evalA_alR, AHeap.next_push, Nat.zero_add]
  rw [show ((AHeap.empty.push (.cells (fC A B C) true)).push (.cells [.int .i64 0, .int .i64 0, .int .i64 0] true)) = H from hH.symm]
  obtain ⟨q1, q2, q3, q4, q5, q6, q7, q8, q9, q10, q11⟩ := hv.bds
  have a1 := hv.a1
  have a2 := hv.a2
  have b1 := hv.b1
  have b2 := hv.b2
  have hc := hv.c
  have hc' := hv.norm.c
  have hnr := nB_range (B := B) a1
  have hnB : B + 2 * A * nk A B = nB A B := rfl
  have hnC : A * nk A B * nk A B + B * nk A B + C = nC A B C := rfl
  have hnC0 : nC A B C = A * nk A B * nk A B + B * nk A B + C := rfl
  have hnB0 : nB A B = B + 2 * A * nk A B := rfl
  -- behind the loops
  have g0' : (H.push (.cells [.int .i64 0, .int .i64 0, .int .i64 0] true)).get 2 = some (.cells [.int .i64 0, .int .i64 0, .int .i64 0] true) := by
    rw [← hnx]; exact AHeap.get_push_same H _
  have g1' : ∀ o : AObj, ((H.push (.cells [.int .i64 0, .int .i64 0, .int .i64 0] true)).set 2 o).get 1 = some (.cells [.int .i64 0, .int .i64 0, .int .i64 0] true) := by
    intro o
    rw [AHeap.get_set_ne _ _ (by decide), AHeap.get_push_lt _ _ (by omega)]; exact g1
  have g1'' : ∀ o o' : AObj, (((H.push (.cells [.int .i64 0, .int .i64 0, .int .i64 0] true)).set 2 o).set 2 o').get 1 = some (.cells [.int .i64 0, .int .i64 0, .int .i64 0] true) := by
    intro o o'
    rw [AHeap.get_set_ne _ _ (by decide)]; exact g1' o
  have fin : ∀ (z2 z3 y5 y6 : AV), WX (lim otab.get K5) (.exit 2) [.block 2, .seq stR] ⟨[.ptr 0 0, .int .i64 (nk A B), z2, z3, .ptr 1 0, y5, y6], H⟩ (Ret [.cell 4 (some 3)] (fVt (stp (A, B, C)))) := by
    intro z2 z3 y5 y6
    simp only [WX_block_eq, WX_seq]
    dsimp only [stR, of59]
    simp (disch := omega) only [RSd.down, WOs_faddr, evalQ_faddr, faddrV_0, faddrV_1, faddrV_2, ld0 g0, ld1 g0, ld2 g0, mul_i64, add_i64, hnB, hnC]
    rw [build3 (a := A) (b := nB A B) (c := nC A B C) rfl rfl rfl]
    simp only [RSd.down, evalA_alR, hnx, evalE_store, stV3 (x := .int .i64 A) (y := .int .i64 (nB A B)) (z := .int .i64 (nC A B C)) g0' rfl rfl rfl]
    by_cases s1 : nC A B C < A
    · have es : stp (A, B, C) = (nC A B C, -nB A B, A) := by unfold stp; dsimp only; rw [if_pos (.inl s1)]
      simp (disch := omega) only [RSd.down, WOs_faddr, evalQ_faddr, faddrV_0, faddrV_1, faddrV_2, ldr0, ldr1, ldr2, gtr_int, s1, decide_true, neg_i64]
      rw [build3 (a := nC A B C) (b := -nB A B) (c := A) rfl rfl rfl]
      simp only [RSd.down, evalE_store, stV3 (x := .int .i64 (nC A B C)) (y := .int .i64 (-nB A B)) (z := .int .i64 A) (AHeap.get_set_same _ _ _) rfl rfl rfl, ldrS, stV3 (x := .int .i64 (nC A B C)) (y := .int .i64 (-nB A B)) (z := .int .i64 A) (g1'' _ _) rfl rfl rfl, Ret_ret]
      rw [es]; exact result_cell ldrS
    · by_cases s2 : A = nC A B C
      · have s2' : (A = nC A B C) = True := eq_true s2
        by_cases s3 : nB A B < 0
        · have es : stp (A, B, C) = (nC A B C, -nB A B, A) := by unfold stp; dsimp only; rw [if_pos (.inr ⟨s2, s3⟩)]
          simp (disch := omega) only [RSd.down, WOs_faddr, evalQ_faddr, faddrV_0, faddrV_1, faddrV_2, ldr0, ldr1, ldr2, gtr_int, eql_int, lss_int, s1, s2', s3, decide_true, decide_false, neg_i64]
          rw [build3 (a := nC A B C) (b := -nB A B) (c := A) rfl rfl rfl]
          simp only [RSd.down, evalE_store, stV3 (x := .int .i64 (nC A B C)) (y := .int .i64 (-nB A B)) (z := .int .i64 A) (AHeap.get_set_same _ _ _) rfl rfl rfl, ldrS, stV3 (x := .int .i64 (nC A B C)) (y := .int .i64 (-nB A B)) (z := .int .i64 A) (g1'' _ _) rfl rfl rfl, Ret_ret]
          rw [es]; exact result_cell ldrS
        · have es : stp (A, B, C) = (A, nB A B, nC A B C) := by unfold stp; dsimp only; rw [if_neg (by omega)]
          simp only [RSd.down, WOs_faddr, evalQ_faddr, faddrV_0, faddrV_1, faddrV_2, ldr0, ldr1, ldr2, gtr_int, eql_int, lss_int, s1, s2', s3, decide_true, decide_false, ldrS, evalE_store, stV3 (x := .int .i64 A) (y := .int .i64 (nB A B)) (z := .int .i64 (nC A B C)) (g1' _) rfl rfl rfl, Ret_ret]
          rw [es]; exact result_cell ldrS
      · have s2' : (A = nC A B C) = False := eq_false s2
        have es : stp (A, B, C) = (A, nB A B, nC A B C) := by unfold stp; dsimp only; rw [if_neg (by omega)]
        simp only [RSd.down, WOs_faddr, evalQ_faddr, faddrV_0, faddrV_1, faddrV_2, ldr0, ldr1, ldr2, gtr_int, eql_int, s1, s2', decide_false, ldrS, evalE_store, stV3 (x := .int .i64 A) (y := .int .i64 (nB A B)) (z := .int .i64 (nC A B C)) (g1' _) rfl rfl rfl, Ret_ret]
        rw [es]; exact result_cell ldrS
  by_cases hB : A < B
  · refine st1_loop g0 a1 a2 b1 b2 100000 0 _ _ _ _ _ (by omega) (by omega) (by omega) fun z2 z3 => ?_
    simp only [RSd.down]
    refine st2_loop g0 a1 a2 b1 b2 1 (nk A B) _ _ _ _ _ (by omega) (by omega) (by omega) fun z2 z3 => ?_
    exact fin _ _ _ _
  · refine WK_loop' (b := st1B) (by dsimp only [st1B, of59]) ?_
    have e1 : ¬ A < B + 2 * A * 0 := by omega
    simp (disch := omega) only [RSd.down, WOs_faddr, evalQ_faddr, faddrV_0, faddrV_1, ld0 g0, ld1 g0, mul_i64, add_i64, gtr_int, e1, decide_false]
    refine st2_loop g0 a1 a2 b1 b2 100000 0 _ _ _ _ _ (by omega) (by omega) (by omega) fun z2 z3 => ?_
    exact fin _ _ _ _
noncomputable def K6 : Oracle := ext K5 59 stpS
theorem K6_ok : IOK Go.Proofs.Try.prog K6 := IOK.extL mixed tabOK otabOK K5_ok (g := 59) (fn := af59) rfl fun args av h => by
  unfold stpS at h
  split at h
  · split at h
    · rename_i hn; cases h; exact ⟨rfl, rfl, stp_run hn⟩
    · cases h
  · cases h
end Go.AM
namespace Go.AM
open Go
theorem eqF {f g : F3} : bin .eql (.flat [1, 1, 1]) (fVt g) (fVt f) = some (.bool (decide (g = f))) := by
  obtain ⟨a, b, c⟩ := f
  obtain ⟨a', b', c'⟩ := g
  have e : eqCells [1, 1, 1] (fC a' b' c') (fC a b c) = some (decide (a' = a ∧ b' = b ∧ c' = c)) := by
    show (match some (ieq a' a) with | some true => (match some (ieq b' b) with | some true => (match some (ieq c' c) with | some true => some true | r => r) | r => r) | r => r) = _
    rw [ieq_eq, ieq_eq, ieq_eq]
    by_cases h1 : a' = a <;> by_cases h2 : b' = b <;> by_cases h3 : c' = c <;> simp [h1, h2, h3]
  show (match (if (fC a' b' c').length = 3 ∧ (fC a b c).length = 3 then eqCells [1, 1, 1] (fC a' b' c') (fC a b c) else none) with | some b => some (AV.bool b) | none => none) = _
  rw [if_pos ⟨rfl, rfl⟩, e]
  simp only [Prod.mk.injEq]
theorem result_cell2 {a b : Nat} {tm : List AV} {h : AHeap} {v : AV} (hl : loadV (some 3) (nth tm a) h = some v) : result [.cell a (some 3), .tmp b] tm h = some (.tup [v, nth tm b]) := by
  have e : resOf tm h (.cell a (some 3)) = some v := hl
  have e2 : resOf tm h (.tmp b) = some (nth tm b) := rfl
  simp only [result, resOfs, e, e2]
section
variable {K : List Fr} {Q : AX → St → Prop}
theorem c_stp6 {f : F3} {h : AHeap} (hv : VT f) : lim otab.get K6 (.fn 59) [fVt f] h = some (fVt (stp f), h) := by
  obtain ⟨A, B, C⟩ := f
  exact lim_oracle (or_hit (spec := stpS) (if_pos hv))
noncomputable def redB : ACode := match of25.body with | .seq _ (.seq _ (.seq _ (.seq _ (.block _ (.loop b))))) => b | c => c

theorem red_loop : ∀ (m : Nat) (f : F3) (h : AHeap) (y0 y3 y4 y5 y6 y7 y8 y9 y10 y11 y12 y13 y14 y15 y16 y17 y18 y19 y20 y21 y22 y23 y24 y25 y26 y27 y28 y29 y30 y31 y32 y33 y34 y35 y36 y37 y38 y39 y40 y41 y42 y43 y44 y45 y46 : AV), VT f → (∃ j, j ≤ m ∧ isRed (itr j f)) → 2 ≤ h.next → h.get 0 = some (.cells (fCt f) true) → h.get 1 = some (.cells [.int .i64 0, .int .i64 0, .int .i64 0] true) →
    (∀ (h' : AHeap) (z0 z4 z5 z6 z7 z8 z9 z10 z11 z12 z13 z14 z15 z16 z17 z18 z19 z20 z21 z22 z23 z24 z25 z26 z27 z28 z29 z30 z31 z32 z33 z34 z35 z36 z37 z38 z39 z40 z41 z42 z43 z44 z45 z46 : AV), h'.get 1 = some (.cells (fCt (rdF m f)) true) → WX (lim otab.get K6) .ret K ⟨(z0 :: .ptr 0 0 :: .ptr 1 0 :: .int .i64 0 :: z4 :: z5 :: z6 :: z7 :: z8 :: z9 :: z10 :: z11 :: z12 :: z13 :: z14 :: z15 :: z16 :: z17 :: z18 :: z19 :: z20 :: z21 :: z22 :: z23 :: z24 :: z25 :: z26 :: z27 :: z28 :: z29 :: z30 :: z31 :: z32 :: z33 :: z34 :: z35 :: z36 :: z37 :: z38 :: z39 :: z40 :: z41 :: z42 :: z43 :: z44 :: z45 :: z46 :: []), h'⟩ Q) →
    WK (lim otab.get K6) (.loop redB) K ⟨(y0 :: .ptr 0 0 :: .ptr 1 0 :: y3 :: y4 :: y5 :: y6 :: y7 :: y8 :: y9 :: y10 :: y11 :: y12 :: y13 :: y14 :: y15 :: y16 :: y17 :: y18 :: y19 :: y20 :: y21 :: y22 :: y23 :: y24 :: y25 :: y26 :: y27 :: y28 :: y29 :: y30 :: y31 :: y32 :: y33 :: y34 :: y35 :: y36 :: y37 :: y38 :: y39 :: y40 :: y41 :: y42 :: y43 :: y44 :: y45 :: y46 :: []), h⟩ Q := by
  intro m
  induction m with
  | zero =>
    intro f h y0 y3 y4 y5 y6 y7 y8 y9 y10 y11 y12 y13 y14 y15 y16 y17 y18 y19 y20 y21 y22 y23 y24 y25 y26 y27 y28 y29 y30 y31 y32 y33 y34 y35 y36 y37 y38 y39 y40 y41 y42 y43 y44 y45 y46 hf hj hn g0 g1 hQ
    obtain ⟨j, j1, j2⟩ := hj
    have hj0 : j = 0 := by omega
    subst hj0
    have hr : isRed f := j2
    have hs := stp_red hf hr
    refine WK_loop' (by dsimp only [redB, of25, af25, Z.t, Z.f, Z.i, Z.q, Z.m, Z.l, Z.b, Z.c]) ?_
    have n0 : (h.push (.cells [.int .i64 0, .int .i64 0, .int .i64 0] true)).get h.next = some (.cells [.int .i64 0, .int .i64 0, .int .i64 0] true) := AHeap.get_push_same h _
    have k0 : ((h.push (.cells [.int .i64 0, .int .i64 0, .int .i64 0] true)).set h.next (.cells (fCt f) true)).get 0 = some (.cells (fCt f) true) := by
      rw [AHeap.get_set_ne _ _ (by omega), AHeap.get_push_lt _ _ (by omega)]; exact g0
    have k1 : ((h.push (.cells [.int .i64 0, .int .i64 0, .int .i64 0] true)).set h.next (.cells (fCt f) true)).get 1 = some (.cells [.int .i64 0, .int .i64 0, .int .i64 0] true) := by
      rw [AHeap.get_set_ne _ _ (by omega), AHeap.get_push_lt _ _ (by omega)]; exact g1
    simp only [RSd.down, ldS g0, c_stp6 hf, hs, evalA_alR, evalE_store, stV3 (x := .int .i64 f.1) (y := .int .i64 f.2.1) (z := .int .i64 f.2.2) n0 rfl rfl rfl, ldrS, ldS k0, eqF, decide_true, stV3 (x := .int .i64 f.1) (y := .int .i64 f.2.1) (z := .int .i64 f.2.2) k1 rfl rfl rfl]
    exact hQ _ _ _ _ _ _ _ _ _ _ _ _ _ _ _ _ _ _ _ _ _ _ _ _ _ _ _ _ _ _ _ _ _ _ _ _ _ _ _ _ _ _ _ _ _ (AHeap.get_set_same _ _ _)
  | succ m ih =>
    intro f h y0 y3 y4 y5 y6 y7 y8 y9 y10 y11 y12 y13 y14 y15 y16 y17 y18 y19 y20 y21 y22 y23 y24 y25 y26 y27 y28 y29 y30 y31 y32 y33 y34 y35 y36 y37 y38 y39 y40 y41 y42 y43 y44 y45 y46 hf hj hn g0 g1 hQ
    unfold rdF at hQ
    refine WK_loop' (by dsimp only [redB, of25, af25, Z.t, Z.f, Z.i, Z.q, Z.m, Z.l, Z.b, Z.c]) ?_
    have n0 : (h.push (.cells [.int .i64 0, .int .i64 0, .int .i64 0] true)).get h.next = some (.cells [.int .i64 0, .int .i64 0, .int .i64 0] true) := AHeap.get_push_same h _
    have k0 : ∀ l, ((h.push (.cells [.int .i64 0, .int .i64 0, .int .i64 0] true)).set h.next (.cells l true)).get 0 = some (.cells (fCt f) true) := by
      intro l; rw [AHeap.get_set_ne _ _ (by omega), AHeap.get_push_lt _ _ (by omega)]; exact g0
    have k1 : ∀ l, ((h.push (.cells [.int .i64 0, .int .i64 0, .int .i64 0] true)).set h.next (.cells l true)).get 1 = some (.cells [.int .i64 0, .int .i64 0, .int .i64 0] true) := by
      intro l; rw [AHeap.get_set_ne _ _ (by omega), AHeap.get_push_lt _ _ (by omega)]; exact g1
    by_cases hr : isRed f
    · simp only [if_pos hr] at hQ
      have hs := stp_red hf hr
      simp only [RSd.down, ldS g0, c_stp6 hf, hs, evalA_alR, evalE_store, stV3 (x := .int .i64 f.1) (y := .int .i64 f.2.1) (z := .int .i64 f.2.2) n0 rfl rfl rfl, ldrS, ldS (k0 _), eqF, decide_true, stV3 (x := .int .i64 f.1) (y := .int .i64 f.2.1) (z := .int .i64 f.2.2) (k1 _) rfl rfl rfl]
      exact hQ _ _ _ _ _ _ _ _ _ _ _ _ _ _ _ _ _ _ _ _ _ _ _ _ _ _ _ _ _ _ _ _ _ _ _ _ _ _ _ _ _ _ _ _ _ (AHeap.get_set_same _ _ _)
    · simp only [if_neg hr] at hQ
      have hs : (stp f = f) = False := eq_false fun e => hr (red_stp hf e)
      obtain ⟨j, j1, j2⟩ := hj
      have hj' : ∃ j, j ≤ m ∧ isRed (itr j (stp f)) := by
        cases j with
        | zero => exact absurd j2 hr
        | succ j => exact ⟨j, by omega, j2⟩
      simp only [RSd.down, ldS g0, c_stp6 hf, evalA_alR, evalE_store, stV3 (x := .int .i64 (stp f).1) (y := .int .i64 (stp f).2.1) (z := .int .i64 (stp f).2.2) n0 rfl rfl rfl, ldrS, ldS (k0 _), eqF, hs, decide_false, stV3 (x := .int .i64 (stp f).1) (y := .int .i64 (stp f).2.1) (z := .int .i64 (stp f).2.2) (k0 _) rfl rfl rfl]
      refine ih (stp f) _ _ _ _ _ _ _ _ _ _ _ _ _ _ _ _ _ _ _ _ _ _ _ _ _ _ _ _ _ _ _ _ _ _ _ _ _ _ _ _ _ _ _ _ _ _ hf.step hj' (by simp; omega) (AHeap.get_set_same _ _ _) ?_ hQ
      rw [AHeap.get_set_ne _ _ (by decide)]; exact k1 _
end
/-- Reduce -/
noncomputable def redV (A B C : Int) : AV := open Classical in if bd [A, B, C] = 0 then (if 0 < A ∧ B * B - 4 * A * C < 0 then .tup [fVt (rd (A, B, C)), .int .i64 0] else .tup [fV 0 0 0, .int .i64 3]) else .tup [fV 0 0 0, .int .i64 4]
theorem bd_three {a b c : Int} (h : bd [a, b, c] = 0) : lim5 a ∧ lim5 b ∧ lim5 c := by
  simp only [bd] at h
  unfold lim5
  rcases lg_cases a with ⟨h1, h1'⟩ | ⟨h1, _⟩
  · rcases lg_cases b with ⟨h2, h2'⟩ | ⟨h2, _⟩
    · rcases lg_cases c with ⟨h3, h3'⟩ | ⟨h3, _⟩
      · exact ⟨h1', h2', h3'⟩
      · simp [h1, h2, h3] at h
    · simp [h1, h2] at h
  · simp [h1] at h
theorem VF_of {A B C : Int} (ha : lim5 A) (hb : lim5 B) (hc : lim5 C) (h0 : 0 < A) (hd : B * B - 4 * A * C < 0) : VF A B C := by
  have e : 4 * A * C = 4 * (A * C) := Int.mul_assoc 4 A C
  have h1 := mul_le_abs ha.1 ha.2 hc.1 hc.2
  have h2 := sq_le hb.1 hb.2
  exact ⟨by omega, ha.2, hb.1, hb.2, by omega, by omega⟩
theorem red_run (A B C : Int) : ∃ h', lim otab.get K6 (.fn 25) [fV A B C] .empty = some (redV A B C, h') := by
  refine run_of (fn := of25) rfl rfl ?_
  show WK _ _ [] ⟨(fV A B C :: aundef :: aundef :: aundef :: aundef :: aundef :: aundef :: aundef :: aundef :: aundef :: aundef :: aundef :: aundef :: aundef :: aundef :: aundef :: aundef :: aundef :: aundef :: aundef :: aundef :: aundef :: aundef :: aundef :: aundef :: aundef :: aundef :: aundef :: aundef :: aundef :: aundef :: aundef :: aundef :: aundef :: aundef :: aundef :: aundef :: aundef :: aundef :: aundef :: aundef :: aundef :: aundef :: aundef :: aundef :: aundef :: aundef :: []), .empty⟩ _
  dsimp only [of25, af25, Z.t, Z.f, Z.i, Z.q, Z.m, Z.l, Z.b, Z.c]
  obtain ⟨H, hH⟩ : ∃ H, H = (AHeap.empty.push (.cells (fC A B C) true)).push (.cells [.int .i64 0, .int .i64 0, .int .i64 0] true) := ⟨_, rfl⟩
  have g0 : H.get 0 = some (.cells (fC A B C) true) := by
    rw [hH, AHeap.get_push_lt _ _ (by simp)]; exact AHeap.get_push_same AHeap.empty _
  have g1 : H.get 1 = some (.cells [.int .i64 0, .int .i64 0, .int .i64 0] true) := by
    rw [hH]; exact AHeap.get_push_same (AHeap.empty.push (.cells (fC A B C) true)) _
  have hnx : H.next = 2 := by rw [hH]; rfl
  have hI : ∀ a h, K6 39 a h = none := fun _ _ => rfl
  simp only [RSd.down, WOs_box, evalA_bxR, cells_agg, evalA_alR, AHeap.next_push, Nat.zero_add]
  rw [show ((AHeap.empty.push (.cells (fC A B C) true)).push (.cells [.int .i64 0, .int .i64 0, .int .i64 0] true)) = H from hH.symm]
  simp only [RSd.down, WOs_faddr, evalQ_faddr, faddrV_0, faddrV_1, faddrV_2, ld0 g0, ld1 g0, ld2 g0]
  rw [bslice3 (v := .int .i64 A) (w := .int .i64 B) (q := .int .i64 C) rfl rfl rfl rfl rfl rfl]
  have p0 : (H.push (.cells (fC A B C) true)).get 0 = some (.cells (fC A B C) true) := by rw [AHeap.get_push_lt _ _ (by omega)]; exact g0
  have p1 : (H.push (.cells (fC A B C) true)).get 1 = some (.cells [.int .i64 0, .int .i64 0, .int .i64 0] true) := by rw [AHeap.get_push_lt _ _ (by omega)]; exact g1
  have hb := bounded_3 hI (h := H) (n := A) (m := B) (q := C)
  have hbld : ∀ (tm : List AV) (h : AHeap), evalQ (.build [.int .i64 0, .int .i64 0, .int .i64 0] []) tm h = some (fV 0 0 0) := fun _ _ => rfl
  have f40 : ((4 : Int) = 0) = False := by simp
  have f30 : ((3 : Int) = 0) = False := by simp
  have st0 := stV3 (x := .int .i64 0) (y := .int .i64 0) (z := .int .i64 0) p1 rfl rfl rfl
  unfold redV
  rcases bd_cases [A, B, C] with hz | hz
  · obtain ⟨l1, l2, l3⟩ := bd_three hz
    have m1 := mul_le_abs l2.1 l2.2 l2.1 l2.2
    have a1 := l1.1
    have a2 := l1.2
    have m2 := mul_le_abs (x := 4 * A) (y := C) (X := 400000) (Y := 100000) (by omega) (by omega) l3.1 l3.2
    by_cases hA : A ≤ 0
    · have hn : ¬ (0 < A ∧ B * B - 4 * A * C < 0) := by omega
      simp only [hb, hz, if_true, hn, if_false, RSd.down, WOs_faddr, evalQ_faddr, faddrV_0, ld0 p0, eql_int, neq_int, leq_int, hA, decide_true, hbld, evalE_store, st0, ne_eq, f30, not_false_eq_true, Ret_ret]
      exact result_cell2 ldrS
    · by_cases hD : 0 ≤ B * B - 4 * A * C
      · have hn : ¬ (0 < A ∧ B * B - 4 * A * C < 0) := by omega
        simp (disch := omega) only [hb, hz, if_true, hn, if_false, RSd.down, WOs_faddr, evalQ_faddr, faddrV_0, faddrV_1, faddrV_2, ld0 p0, ld1 p0, ld2 p0, eql_int, neq_int, leq_int, geq_int, mul_i64, sub_i64, hA, hD, decide_true, decide_false, hbld, evalE_store, st0, ne_eq, f30, not_false_eq_true, Ret_ret]
        exact result_cell2 ldrS
      · have hn : 0 < A ∧ B * B - 4 * A * C < 0 := by omega
        have hv := VF_of l1 l2 l3 hn.1 hn.2
        simp (disch := omega) only [hb, hz, if_true, hn, and_self, RSd.down, WOs_faddr, evalQ_faddr, faddrV_0, faddrV_1, faddrV_2, ld0 p0, ld1 p0, ld2 p0, eql_int, neq_int, leq_int, geq_int, mul_i64, sub_i64, hA, hD, decide_true, decide_false, ne_eq, not_true_eq_false]
        refine red_loop 30 (A, B, C) _ _ _ _ _ _ _ _ _ _ _ _ _ _ _ _ _ _ _ _ _ _ _ _ _ _ _ _ _ _ _ _ _ _ _ _ _ _ _ _ _ _ _ _ _ _ hv (reach hv) (by simp; omega) p0 p1 ?_
        intro h' z0 z4 z5 z6 z7 z8 z9 z10 z11 z12 z13 z14 z15 z16 z17 z18 z19 z20 z21 z22 z23 z24 z25 z26 z27 z28 z29 z30 z31 z32 z33 z34 z35 z36 z37 z38 z39 z40 z41 z42 z43 z44 z45 z46 k1
        simp only [RSd.down, Ret_ret]
        exact result_cell2 (ldS k1)
  · simp only [hb, hz, f40, if_false, RSd.down, eql_int, neq_int, decide_true, decide_false, hbld, evalE_store, st0, ne_eq, not_false_eq_true, Ret_ret]
    exact result_cell2 ldrS
noncomputable def redS : List AV → Option AV
  | [.agg [.int .i64 A, .int .i64 B, .int .i64 C]] => some (redV A B C)
  | _ => none
noncomputable def K7 : Oracle := ext K6 25 redS
theorem redV_plain (A B C : Int) : AV.plain (redV A B C) = true := by
  unfold redV
  split
  · split <;> rfl
  · rfl
theorem K7_ok : IOK Go.Proofs.Try.prog K7 := IOK.extL mixed tabOK otabOK K6_ok (g := 25) (fn := af25) rfl fun args av h => by
  unfold redS at h
  split at h
  · rename_i A B C; cases h; exact ⟨rfl, redV_plain A B C, red_run A B C⟩
  · cases h
end Go.AM
