/- The reference's root ends; its test of squares says no where the number is no square. No condition. -/
import Derived.Test.YtemmnocgkgoegaaGreatRt
set_option maxRecDepth 100000
set_option linter.unusedSimpArgs false
set_option linter.unusedVariables false
namespace Go.AM
open Go
noncomputable def D8 : Oracle := ext D7 59 raddS
theorem D8_ok : IOK Go.Proofs.Tryz.prog D8 := IOK.join D7_ok J9_ok fun args av h e => ext_hit e
noncomputable def D9 : Oracle := ext D8 39 ncmpS
theorem D9_ok : IOK Go.Proofs.Tryz.prog D9 := IOK.join D8_ok J8_ok fun args av h e => ext_hit e
noncomputable def D10 : Oracle := ext D9 77 rdmI
theorem D10_ok : IOK Go.Proofs.Tryz.prog D10 := IOK.join D9_ok D1_ok fun args av h e => ext_hit e
section
variable {h : AHeap}
theorem big90 {x : Nat} (h : x < 256 ^ 40) : kcan (nb x) = true := kcan_nb (Nat.lt_of_lt_of_le h (Nat.pow_le_pow_right (by decide) (by decide)))
theorem c_rdm {s t : List Nat} (hs : kcan s = true) (ht : kcan t = true) (h0 : nv t ≠ 0) : lim otab.get D10 (.fn 77) [.str s, .str t] h = some (.tup [.str (nb (nv s / nv t)), .str (nb (nv s % nv t))], h) := lim_oracle (ext_hit (by
  show (bif kcan s && kcan t && (Bool.rec (motive := fun _ => Bool) true false (Nat.beq (kv t) 0)) then frc (kv s) fun a => frc (kv t) fun b => nbK (a / b) fun q => nbK (a % b) fun r => some (AV.tup [.str q, .str r]) else none) = _
  have hb : Nat.beq (nv t) 0 = false := by cases hb : Nat.beq (nv t) 0 with | false => rfl | true => exact absurd (Nat.eq_of_beq_eq_true hb) h0
  rw [hs, ht, frc_eq, frc_eq, nbK_eq, nbK_eq, kv_eq, kv_eq, hb]; rfl))
theorem c_rcm {s t : List Nat} (hs : kcan s = true) (ht : kcan t = true) : lim otab.get D10 (.fn 39) [.str s, .str t] h = some (.int .i64 (cmpN (nv s) (nv t)), h) := lim_oracle (or_hit (spec := ncmpS) (by
  show (bif canB s && canB t then some (AV.int .i64 (cmpN (nv s) (nv t))) else none) = _
  rw [(kcan_ok hs).2, (kcan_ok ht).2]; rfl))
theorem c_rad {s t : List Nat} (hs : kcan s = true) (ht : kcan t = true) : lim otab.get D10 (.fn 59) [.str s, .str t] h = some (.str (nb (nv s + nv t)), h) := lim_oracle (or_hit (spec := raddS) (by
  show (bif fitR s && fitR t then some (AV.str (nb (nv s + nv t))) else none) = _
  rw [(kcan_ok hs).1, (kcan_ok ht).1]; rfl))
theorem c_rmu {s t : List Nat} (hs : kcan s = true) (ht : kcan t = true) : lim otab.get D10 (.fn 37) [.str s, .str t] h = some (.str (nb (nv s * nv t)), h) := lim_oracle (or_hit (spec := rmulS) (by
  show (bif fitR s && fitR t then some (AV.str (nb (nv s * nv t))) else none) = _
  rw [(kcan_ok hs).1, (kcan_ok ht).1]; rfl))
theorem c_pw1 {s : List Nat} (hs : kcan s = true) (hl : s.length ≤ 40) : lim otab.get D10 (.fn 78) [.str s, .int .i64 1] h = some (.str (nb (nv s)), h) := lim_oracle (or_hit (spec := powS1) (by
  show (bif kcan s && decide ((1 : Int) = 1) && Nat.ble s.length 40 then some (AV.str (nb (nv s))) else none) = _
  rw [hs, Nat.ble_eq_true_of_le hl]; rfl))
theorem c_fi1 : lim otab.get D10 (.fn 79) [.int .i64 1] h = some (.str (nb 1), h) := lim_oracle rfl
theorem c_fi2 : lim otab.get D10 (.fn 79) [.int .i64 2] h = some (.str (nb 2), h) := lim_oracle rfl
end
/-- a root comes out, of whatever value -/
def RQ (h : AHeap) : AX → St → Prop := fun x s => (∀ i, x ≠ .exit i) ∧ ∃ v, result [.tmp 4] s.tm s.h = some v ∧ ((∃ r, r < 256 ^ 40 ∧ v = .str (nb r)) ∧ s.h = h)
noncomputable def rotB : ACode := match of63.body with | .seq _ (.seq _ (.seq _ (.block _ (.loop b)))) => b | c => c
theorem rot_loop {h : AHeap} {s : List Nat} (hs : kcan s = true) (hn : nv s < 256 ^ 8) (h0 : nv s ≠ 0) : ∀ (x : Nat) (y2 y3 y4 y6 y7 y8 y9 y10 y11 y12 y13 y14 y15 y16 y17 y18 y19 y20 y21 y22 y23 y24 y25 y26 y27 y28 y29 y30 y31 y32 y33 y34 y35 y36 y37 y38 y39 y40 y41 y42 y43 y44 y45 y46 y47 : AV), x ≠ 0 → x < 256 ^ 30 →
    WK (lim otab.get D10) (.loop rotB) [.block 0] ⟨[.str s, .int .i64 2, y2, y3, y4, .str (nb x), y6, y7, y8, y9, y10, y11, y12, y13, y14, y15, y16, y17, y18, y19, y20, y21, y22, y23, y24, y25, y26, y27, y28, y29, y30, y31, y32, y33, y34, y35, y36, y37, y38, y39, y40, y41, y42, y43, y44, y45, y46, y47], h⟩ (RQ h) := by
  intro x
  induction x using Nat.strongRecOn with
  | ind x ih =>
    intro y2 y3 y4 y6 y7 y8 y9 y10 y11 y12 y13 y14 y15 y16 y17 y18 y19 y20 y21 y22 y23 y24 y25 y26 y27 y28 y29 y30 y31 y32 y33 y34 y35 y36 y37 y38 y39 y40 y41 y42 y43 y44 y45 y46 y47 hx hb
    have e30 : (256 : Nat) ^ 30 * 2 ≤ 256 ^ 40 := by decide
    have e8 : (256 : Nat) ^ 8 ≤ 256 ^ 30 := by decide
    have hq : nv s / x ≤ nv s := Nat.div_le_self _ _
    have kx : kcan (nb x) = true := big90 (by omega)
    have lx : (nb x).length ≤ 40 := nb_len (by omega)
    have kq : kcan (nb (nv s / x)) = true := big90 (by omega)
    have k1 : kcan (nb 1) = true := big90 (by decide)
    have k2 : kcan (nb 2) = true := big90 (by decide)
    have ka : kcan (nb (x + nv s / x)) = true := big90 (by omega)
    have ky : kcan (nb ((x + nv s / x) / 2)) = true := big90 (by omega)
    have c1 := fun h => c_pw1 (h := h) kx lx
    have c2 := fun h => c_rdm (h := h) hs kx (by rw [nv_nb]; exact hx)
    have c3 := fun h => c_rmu (h := h) k1 kx
    have c4 := fun h => c_rad (h := h) kx kq
    have c5 := fun h => c_rdm (h := h) ka k2 (by rw [nv_nb]; decide)
    have c6 := fun h => c_rcm (h := h) ky kx
    rw [nv_nb] at c1
    simp only [nv_nb, Nat.one_mul] at c2 c3 c4 c5 c6
    refine WK_loop' (by dsimp only [rotB, of63, af63, Z.t, Z.f, Z.i, Z.q, Z.m, Z.l, Z.b, Z.c]) ?_
    have s1 : bin .sub .no (.int .i64 2) (.int .i64 1) = some (.int .i64 1) := rfl
    by_cases hge : x ≤ (x + nv s / x) / 2
    · have hc : decide (0 ≤ cmpN ((x + nv s / x) / 2) x) = true := by
        refine decide_eq_true ?_
        rcases Nat.lt_or_ge x ((x + nv s / x) / 2) with g | g
        · rw [cmpN_gt g]; decide
        · have : (x + nv s / x) / 2 = x := by omega
          rw [this, cmpN_eq]; decide
      simp only [RSd.down, s1, c1, c2, c3, c4, c5, c6, c_fi1, c_fi2, geq_int, hc]
      exact ⟨(fun i hi => by cases hi), _, rfl, ⟨x, by omega, rfl⟩, rfl⟩
    · have hc : decide (0 ≤ cmpN ((x + nv s / x) / 2) x) = false := by
        rw [cmpN_lt (by omega)]; rfl
      simp only [RSd.down, s1, c1, c2, c3, c4, c5, c6, c_fi1, c_fi2, geq_int, hc]
      refine ih _ (by omega) _ _ _ _ _ _ _ _ _ _ _ _ _ _ _ _ _ _ _ _ _ _ _ _ _ _ _ _ _ _ _ _ _ _ _ _ _ _ _ _ _ _ _ _ _ ?_ (by omega)
      intro hz
      by_cases x1 : x = 1
      · subst x1; rw [Nat.div_one] at hz; omega
      · generalize nv s / x = q at hz; omega
theorem root_ex {s : List Nat} (hs : kcan s = true) (hl : s.length ≤ 8) (h0 : nv s ≠ 0) (h : AHeap) : ∃ r, r < 256 ^ 40 ∧ lim otab.get D10 (.fn 63) [.str s, .int .i64 2] h = some (.str (nb r), h) := by
  obtain ⟨s1, s2⟩ := fitR_iff (kcan_ok hs).1
  have hn : nv s < 256 ^ 8 := Nat.lt_of_lt_of_le (nv_lt s1) (Nat.pow_le_pow_right (by decide) hl)
  obtain ⟨x0, r0, rfl⟩ : ∃ x r, s = x :: r := by
    cases s with
    | nil => exact absurd rfl h0
    | cons x r => exact ⟨x, r, rfl⟩
  have hlr : r0.length ≤ 7 := by simpa using hl
  have hbl := bl_le 8 x0
  obtain ⟨v, h', e, ⟨r, hr, rfl⟩, rfl⟩ := lim_walk_ex (T := otab.get) (I := D10) (f := 63) (fn := of63) rfl (a := [.str (x0 :: r0), .int .i64 2]) (h := h) (P := fun v h' => (∃ r, r < 256 ^ 40 ∧ v = .str (nb r)) ∧ h' = h) rfl (by
    show WK _ _ [] ⟨.str (x0 :: r0) :: .int .i64 2 :: List.replicate 46 aundef, h⟩ _
    simp only [List.replicate]
    dsimp only [of63, af63, Z.t, Z.f, Z.i, Z.q, Z.m, Z.l, Z.b, Z.c]
    have hne : ¬ (x0 :: r0) = [] := by simp
    have cb : ∀ h, lim otab.get D10 (.fn 76) [.str (x0 :: r0)] h = some (.int .i64 ((8 * r0.length + bl 8 x0 : Nat) : Int), h) := fun h => lim_oracle (or_hit (spec := bitsS) (by
      show (bif kcan (x0 :: r0) then some (AV.int .i64 ((8 * r0.length + bl 8 x0 : Nat) : Int)) else none) = _
      rw [hs]; rfl))
    obtain ⟨E, hE⟩ : ∃ E, E = 8 * r0.length + bl 8 x0 := ⟨_, rfl⟩
    rw [← hE] at cb
    have e1 : ((E : Nat) : Int) + 2 - 1 = ((E + 1 : Nat) : Int) := by omega
    have e2 : ((E + 1 : Nat) : Int) / 2 = (((E + 1) / 2 : Nat) : Int) := by omega
    have ct : ∀ h, lim otab.get D10 (.fn 75) [.int .i64 (((E + 1) / 2 : Nat) : Int)] h = some (.str (nb (2 ^ ((E + 1) / 2))), h) := fun h => lim_oracle (or_hit (spec := twoS) (by
      show (bif decide ((0 : Int) ≤ (((E + 1) / 2 : Nat) : Int)) && decide ((((E + 1) / 2 : Nat) : Int) ≤ 700) then some (AV.str (nb (2 ^ ((((E + 1) / 2 : Nat) : Int)).toNat))) else none) = _
      rw [decide_eq_true (by omega), decide_eq_true (by omega), Int.toNat_natCast]; rfl))
    have hx0 : 2 ^ ((E + 1) / 2) < 256 ^ 30 := by
      have h1 : 2 ^ ((E + 1) / 2) ≤ 2 ^ 100 := Nat.pow_le_pow_right (by decide) (by omega)
      have h2 : (2 : Nat) ^ 100 < 256 ^ 30 := by decide
      omega
    simp (disch := omega) only [RSd.down, eql_str, hne, decide_false, cb, add_i64, sub_i64, e1, quo_pos, e2, ct]
    exact rot_loop hs hn h0 (2 ^ ((E + 1) / 2)) _ _ _ _ _ _ _ _ _ _ _ _ _ _ _ _ _ _ _ _ _ _ _ _ _ _ _ _ _ _ _ _ _ _ _ _ _ _ _ _ _ _ _ _ _ (Nat.pos_iff_ne_zero.1 (Nat.pow_pos (by decide))) hx0)
  exact ⟨r, hr, e⟩
theorem sqrt_ex {s : List Nat} (hs : kcan s = true) (hl : s.length ≤ 8) (h0 : nv s ≠ 0) (h : AHeap) : ∃ r, r < 256 ^ 40 ∧ lim otab.get D10 (.fn 40) [.str s] h = some (.str (nb r), h) := by
  obtain ⟨r, hr, e⟩ := root_ex hs hl h0 h
  refine ⟨r, hr, lim_walk (fn := of40) rfl rfl ?_⟩
  show WK _ _ [] ⟨[.str s, aundef], h⟩ _
  dsimp only [of40]
  simp only [RSd.down, e]
  exact ⟨(fun i hi => by cases hi), rfl, trivial⟩
end Go.AM
