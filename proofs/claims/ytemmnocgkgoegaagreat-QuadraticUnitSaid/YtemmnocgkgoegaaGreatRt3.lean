/- The reference's integers: test of squares, signs, comparison, difference: answers. No condition. -/
import Derived.Test.YtemmnocgkgoegaaGreatRt2
set_option maxRecDepth 100000
set_option linter.unusedSimpArgs false
set_option linter.unusedVariables false
namespace Go.AM
open Go
section
variable {C : CallT} {K : List Fr} {Q : AX → St → Prop} {op : AOp} {m : Nat} {d : Option Nat} {r : List (AOper × Nat)} {ps : List ((AHeap → Bool) × Nat)} {tm : List AV} {h : AHeap}
def dgLow (op : AOp) (ps : List ((AHeap → Bool) × Nat)) : List ((AHeap → Bool) × Nat) := match op.cls with | .e => lower ps | _ => ps
def DG (C : CallT) (v : AV) (b : Bool) (d : Option Nat) (op : AOp) (m : Nat) (r : List (AOper × Nat)) (ps : List ((AHeap → Bool) × Nat)) (K : List Fr) (tm : List AV) (h : AHeap) (Q : AX → St → Prop) : Prop := match v with
  | .bool c => if (c == b) = true then WDs C ((⟨d, op, none⟩, m) :: r) ps K ⟨tm, h⟩ Q else WDs C r (dgLow op ps) K ⟨putD tm d aundef, h⟩ Q
  | _ => WDs C r (dgLow op ps) K ⟨putD tm d aundef, h⟩ Q
theorem DG_tt : DG C (.bool true) true d op m r ps K tm h Q ↔ WDs C ((⟨d, op, none⟩, m) :: r) ps K ⟨tm, h⟩ Q := by simp [DG]
theorem DG_ff : DG C (.bool false) false d op m r ps K tm h Q ↔ WDs C ((⟨d, op, none⟩, m) :: r) ps K ⟨tm, h⟩ Q := by simp [DG]
theorem DG_ft : DG C (.bool false) true d op m r ps K tm h Q ↔ WDs C r (dgLow op ps) K ⟨putD tm d aundef, h⟩ Q := by simp [DG]
theorem DG_tf : DG C (.bool true) false d op m r ps K tm h Q ↔ WDs C r (dgLow op ps) K ⟨putD tm d aundef, h⟩ Q := by simp [DG]
theorem DGs {t : Nat} {b : Bool} : WDs C ((⟨d, op, some (t, b)⟩, m) :: r) ps K ⟨tm, h⟩ Q ↔ DG C (nth tm t) b d op m r ps K tm h Q := by
  have e : runDraw ((⟨d, op, some (t, b)⟩, m) :: r) C ⟨tm, h⟩ ps = if wanted tm (some (t, b)) = true then runDraw ((⟨d, op, none⟩, m) :: r) C ⟨tm, h⟩ ps else runDraw r C ⟨putD tm d aundef, h⟩ (dgLow op ps) := by
    rw [runDraw_cons, runDraw_cons]
    by_cases hw : wanted tm (some (t, b)) = true
    · rw [if_pos hw, if_pos hw, if_pos (show wanted tm none = true from rfl)]
      cases hc : op.cls with
      | q => rw [step1_q hc, step1_q hc]; rfl
      | a => rw [step1_a hc, step1_a hc]; rfl
      | e => rw [step1_e hc, step1_e hc]
    · rw [if_neg hw, if_neg hw]; rfl
  have e2 : wanted tm (some (t, b)) = (match nth tm t with | .bool c => c == b | _ => false) := rfl
  unfold WDs
  rw [e, e2]
  generalize nth tm t = v
  cases v with
  | bool c =>
    show (∃ s', (if (c == b) = true then _ else _) = some s' ∧ _) ↔ (if (c == b) = true then _ else _)
    by_cases hc : (c == b) = true
    · rw [if_pos hc, if_pos hc]; exact Iff.rfl
    · rw [if_neg hc, if_neg hc]; exact Iff.rfl
  | _ => exact Iff.rfl
end
theorem resC2 {tm : List AV} {h : AHeap} {a b n : Nat} {v : AV} (hl : loadV (some n) (nth tm a) h = some v) : result [.cell a (some n), .tmp b] tm h = some (.tup [v, nth tm b]) := by
  have e : resOf tm h (.cell a (some n)) = some v := hl
  have e2 : resOf tm h (.tmp b) = some (nth tm b) := rfl
  simp only [result, resOfs, e, e2]
open Classical in
/-- IsSquare of a number that is none -/
noncomputable def isqS : List AV → Option AV
  | [.agg [.bool false, .str s]] => if kcan s = true ∧ s.length ≤ 8 ∧ nv s ≠ 0 ∧ ∀ r, r * r ≠ nv s then some (.tup [.agg [.bool false, .str []], .bool false]) else none
  | _ => none
theorem isq_run {s : List Nat} (hs : kcan s = true) (hl : s.length ≤ 8) (h0 : nv s ≠ 0) (hsq : ∀ r, r * r ≠ nv s) : ∃ h', lim otab.get D10 (.fn 13) [.agg [.bool false, .str s]] .empty = some (.tup [.agg [.bool false, .str []], .bool false], h') := by
  refine run_of (fn := of13) rfl rfl ?_
  show WK _ _ [] ⟨[.agg [.bool false, .str s], aundef, aundef, aundef, aundef, aundef, aundef], .empty⟩ _
  dsimp only [of13]
  obtain ⟨g0, g1⟩ := hp2 (c0 := [.bool false, .str s]) (c1 := [.bool false, .str []])
  obtain ⟨H, hH⟩ : ∃ H, H = (AHeap.empty.push (.cells [.bool false, .str s] true)).push (.cells [.bool false, .str []] true) := ⟨_, rfl⟩
  rw [← hH] at g0 g1
  obtain ⟨r, hr, er⟩ := sqrt_ex hs hl h0 H
  have kr : kcan (nb r) = true := big90 hr
  have cm := fun h => c_rmu (h := h) kr kr
  simp only [nv_nb] at cm
  have hne : decide (nb (r * r) = s) = false := decide_eq_false fun e => hsq r (by rw [← e, nv_nb])
  have hb0 : ∀ (tm : List AV) (hh : AHeap), evalQ (.build [.bool false, .str []] []) tm hh = some (.agg [.bool false, .str []]) := fun _ _ => rfl
  simp only [RSd.down, WOs_box, bxA, alA, celA, AHeap.next_push, Nat.zero_add]
  rw [← hH]
  simp only [RSd.down, WOs_faddr, WDs_faddr, WDs_load, DGs, DG_ff, evalQ_fadI, fadI_0, fadI_1, l20 g0, l21 g0, er, WDV_succ, cm, WDE_some, checks, lower, recheck, AOp.cls, AV.beq_refl, cond_true, true_and, neq_str, hne, Bool.not_false, WDs_pick, hb0, evalE_stI, stI2 (x := .bool false) (y := .str []) g1 rfl rfl, Ret_ret]
  exact resC2 (l2S (AHeap.get_set_same _ _ _))
noncomputable def D11 : Oracle := ext D10 13 isqS
theorem D11_ok : IOK Go.Proofs.Tryz.prog D11 := IOK.extL mixed tabOK otabOK D10_ok (g := 13) (fn := af13) rfl fun args av h => by
  unfold isqS at h
  split at h
  · split at h
    · rename_i hc; cases h; exact ⟨rfl, rfl, isq_run hc.1 hc.2.1 hc.2.2.1 hc.2.2.2⟩
    · cases h
  · cases h
/-- Valid -/
noncomputable def valS : List AV → Option AV
  | [.agg [.bool false, .str s]] => bif kcan s then some (.bool true) else none
  | _ => none
theorem val_run {s : List Nat} (hs : kcan s = true) : ∃ h', lim otab.get D11 (.fn 7) [.agg [.bool false, .str s]] .empty = some (.bool true, h') := by
  have cv : ∀ h, lim otab.get D11 (.fn 33) [.str s] h = some (.bool true, h) := by
    intro h
    refine lim_walk (fn := of33) rfl rfl ?_
    show WK _ _ [] ⟨[.str s, aundef], h⟩ _
    dsimp only [of33]
    cases s with
    | nil =>
      simp only [RSd.down, eql_str, decide_true]
      exact ⟨(fun i hi => by cases hi), rfl, trivial⟩
    | cons x r =>
      have hx : ¬ (x : Int) = 0 := by
        have := (can_low (kcan_ok hs).2)
        have hc := (kcan_ok hs).2
        unfold canB at hc
        rw [Bool.and_eq_true] at hc
        have : 0 < x := Nat.blt_eq.mp hc.2
        omega
      have hne : ¬ (x :: r) = [] := by simp
      have hi : indexSV (.str (x :: r)) (.int .i64 0) = some (.int .u8 (x : Int)) := indexSW (i := 0) rfl
      have hx' : ((x : Int) ≠ 0) = True := eq_true hx
      simp only [RSd.down, eql_str, hne, decide_false, hi, neq_int, hx', decide_true]
      exact ⟨(fun i hi => by cases hi), rfl, trivial⟩
  refine run_of (fn := of7) rfl rfl ?_
  show WK _ _ [] ⟨[.agg [.bool false, .str s], aundef, aundef], .empty⟩ _
  dsimp only [of7]
  have g0 := hp1 (c := [.bool false, .str s])
  have g0' : (AHeap.empty.push (.cells [.bool false, .str s] true)).get AHeap.empty.next = some (.cells [.bool false, .str s] true) := g0
  simp only [RSd.down, WOs_box, bxA, celA, WOs_faddr, evalQ_fadI, fadI_0, fadI_1, l20 g0, l21 g0, l20 g0', l21 g0', cv, not_bool, Bool.not_false, Ret_ret, result_1]
noncomputable def D12 : Oracle := ext D11 7 valS
theorem D12_ok : IOK Go.Proofs.Tryz.prog D12 := IOK.extL mixed tabOK otabOK D11_ok (g := 7) (fn := af7) rfl fun args av h => by
  unfold valS at h
  split at h
  · obtain ⟨h1, rfl⟩ := bif_some h; exact ⟨rfl, rfl, val_run h1⟩
  · cases h
/-- Sign -/
def sgnS : List AV → Option AV
  | [.agg [.bool false, .str s]] => some (.int .i64 (if s = [] then 0 else 1))
  | _ => none
theorem sgn_run (s : List Nat) : ∃ h', lim otab.get D12 (.fn 8) [.agg [.bool false, .str s]] .empty = some (.int .i64 (if s = [] then 0 else 1), h') := by
  refine run_of (fn := of8) rfl rfl ?_
  show WK _ _ [] ⟨[.agg [.bool false, .str s], aundef], .empty⟩ _
  dsimp only [of8]
  have g0 := hp1 (c := [.bool false, .str s])
  have g0' : (AHeap.empty.push (.cells [.bool false, .str s] true)).get AHeap.empty.next = some (.cells [.bool false, .str s] true) := g0
  by_cases h : s = []
  · have hT : (s = []) = True := eq_true h
    rw [if_pos h]
    simp only [RSd.down, WOs_box, bxA, celA, WOs_faddr, evalQ_fadI, fadI_0, fadI_1, l20 g0, l21 g0, l20 g0', l21 g0', eql_str, hT, decide_true, Ret_ret, result_1]
  · rw [if_neg h]
    simp only [RSd.down, WOs_box, bxA, celA, WOs_faddr, evalQ_fadI, fadI_0, fadI_1, l20 g0, l21 g0, l20 g0', l21 g0', eql_str, h, decide_false, Ret_ret, result_1]
noncomputable def D13 : Oracle := ext D12 8 sgnS
theorem D13_ok : IOK Go.Proofs.Tryz.prog D13 := IOK.extL mixed tabOK otabOK D12_ok (g := 8) (fn := af8) rfl fun args av h => by
  unfold sgnS at h
  split at h
  · cases h; exact ⟨rfl, rfl, sgn_run _⟩
  · cases h
end Go.AM
