/- Integers of any size: answers for quick runs. No condition. -/
import Derived.Test.YtemmnocgkgoegaaGreatArm
import Derived.Test.YtemmnocgkgoegaaGreatSqm
set_option maxRecDepth 100000
set_option linter.unusedVariables false
set_option linter.unusedSimpArgs false
namespace Go.AM
open Go
theorem IOK.join {P : Program} {I J : Oracle} (hI : IOK P I) (hJ : IOK P J) {g : Nat} {spec : List AV → Option AV} (hs : ∀ args av h, spec args = some av → J g args h = some (av, h)) : IOK P (ext I g spec) := by
  refine ⟨fun f args av h h' he ρ B w args' hsm ha => ?_, fun f args r h he => ?_⟩
  · unfold ext at he
    cases hf : Nat.beq f g with
    | false => rw [hf] at he; exact hI.sound f args av h h' he ρ B w args' hsm ha
    | true =>
      have e := Nat.eq_of_beq_eq_true hf
      subst e
      rw [hf] at he
      simp only [cond_true] at he
      split at he
      · rename_i av' hav
        cases he
        exact hJ.sound f args _ _ _ (hs args _ _ hav) ρ B w args' hsm ha
      · exact hI.sound f args av h h' he ρ B w args' hsm ha
  · unfold ext at he
    cases hf : Nat.beq f g with
    | false => rw [hf] at he; exact hI.plain f args r h he
    | true =>
      have e := Nat.eq_of_beq_eq_true hf
      subst e
      rw [hf] at he
      simp only [cond_true] at he
      split at he
      · rename_i av' hav
        exact hJ.plain f args _ _ (hs args _ h hav)
      · exact hI.plain f args r h he
noncomputable def U1 : Oracle := ext J11 14 largeS
theorem U1_ok : IOK Go.Proofs.Tryz.prog U1 := IOK.join J11_ok I11_ok fun args av h e => or_hit (spec := largeS) e
noncomputable def U2 : Oracle := ext U1 27 fundS
theorem U2_ok : IOK Go.Proofs.Tryz.prog U2 := IOK.join U1_ok I11_ok fun args av h e => or_hit (spec := fundS) e
noncomputable def U3 : Oracle := ext U2 4 isFundS
theorem U3_ok : IOK Go.Proofs.Tryz.prog U3 := IOK.join U2_ok I11_ok fun args av h e => ext_hit e
end Go.AM
namespace Go.AM
open Go
/-- a number is computed before it is used -/
noncomputable def frc {α : Type} (n : Nat) (f : Nat → α) : α := Nat.rec (motive := fun _ => α) (f 0) (fun k _ => f (Nat.succ k)) n
theorem frc_eq {α : Type} (n : Nat) (f : Nat → α) : frc n f = f n := by cases n <;> rfl
noncomputable def kvF (s : List Nat) : Nat → Nat := List.rec (motive := fun _ => Nat → Nat) (fun a => a) (fun x _ ih a => frc (a * 256 + x) ih) s
theorem kvF_eq : ∀ (s : List Nat) (a : Nat), kvF s a = s.foldl (fun a b => a * 256 + b) a
  | [], _ => rfl
  | x :: r, a => by
    show frc (a * 256 + x) (kvF r) = _
    rw [frc_eq, kvF_eq r]; rfl
noncomputable def kv (s : List Nat) : Nat := kvF s 0
theorem kv_eq (s : List Nat) : kv s = nv s := kvF_eq s 0
noncomputable def kfit (s : List Nat) : Nat → Bool := List.rec (motive := fun _ => Nat → Bool) (fun _ => true)
  (fun x _ ih f => Nat.rec (motive := fun _ => Bool) false (fun k _ => Bool.rec (motive := fun _ => Bool) false (ih k) (Nat.ble x 255)) f) s
theorem kfit_ok : ∀ (s : List Nat) (f : Nat), kfit s f = true → (∀ b ∈ s, b < 256) ∧ s.length ≤ f
  | [], f, _ => ⟨(fun b hb => nomatch hb), Nat.zero_le _⟩
  | x :: r, 0, h => nomatch h
  | x :: r, f + 1, h => by
    have h' : Bool.rec (motive := fun _ => Bool) false (kfit r f) (Nat.ble x 255) = true := h
    cases hx : Nat.ble x 255 with
    | false => rw [hx] at h'; exact nomatch h'
    | true =>
      rw [hx] at h'
      obtain ⟨h1, h2⟩ := kfit_ok r f h'
      have hx := Nat.le_of_ble_eq_true hx
      refine ⟨fun b hb => ?_, Nat.succ_le_succ h2⟩
      rcases List.mem_cons.1 hb with e | e
      · subst e; omega
      · exact h1 b e
/-- well-formed: bytes, at most 90, no zero ahead -/
noncomputable def kcan (s : List Nat) : Bool := Bool.rec (motive := fun _ => Bool) false (kfit s 90) (List.rec (motive := fun _ => Bool) true (fun x _ _ => Nat.ble 1 x) s)
theorem kcan_ok {s : List Nat} (h : kcan s = true) : fitR s = true ∧ canB s = true := by
  have hh : (List.rec (motive := fun _ => Bool) true (fun x _ _ => Nat.ble 1 x) s) = true ∧ kfit s 90 = true := by
    unfold kcan at h
    cases hx : (List.rec (motive := fun _ => Bool) true (fun x _ _ => Nat.ble 1 x) s : Bool) with
    | false => rw [hx] at h; exact nomatch h
    | true => rw [hx] at h; exact ⟨rfl, h⟩
  obtain ⟨h1, h2⟩ := kfit_ok s 90 hh.2
  have ho : okB s = true := List.all_eq_true.2 fun b hb => Nat.blt_eq.mpr (h1 b hb)
  have hb1 : Nat.ble s.length 90 = true := Nat.ble_eq_true_of_le h2
  have hb2 : Nat.ble s.length 10000 = true := Nat.ble_eq_true_of_le (by omega)
  refine ⟨by unfold fitR; rw [ho, hb1]; rfl, ?_⟩
  unfold canB fit3
  rw [ho, hb2]
  cases s with
  | nil => rfl
  | cons x r =>
    have : Nat.ble 1 x = true := hh.1
    show Nat.blt 0 x = true
    exact this
/-- the bytes of a number, computed before they are used -/
noncomputable def nbKF {α : Type} (k : List Nat → α) (fuel : Nat) : Nat → List Nat → α :=
  Nat.rec (motive := fun _ => Nat → List Nat → α) (fun _ acc => k acc)
    (fun _ ih n acc => Bool.rec (motive := fun _ => α) (frc (n % 256) fun d => frc (n / 256) fun q => ih q (d :: acc)) (k acc) (Nat.beq n 0)) fuel
theorem nbKF_eq {α : Type} (k : List Nat → α) : ∀ (fuel n : Nat) (acc : List Nat), nbKF k fuel n acc = k (nbF fuel n acc)
  | 0, _, _ => rfl
  | f + 1, n, acc => by
    show Bool.rec (motive := fun _ => α) (frc (n % 256) fun d => frc (n / 256) fun q => nbKF k f q (d :: acc)) (k acc) (Nat.beq n 0) = _
    rw [nbF_succ, frc_eq, frc_eq, nbKF_eq k f]
    by_cases h : n = 0
    · subst h; rfl
    · have : Nat.beq n 0 = false := by cases hb : Nat.beq n 0 <;> simp_all
      rw [this, if_neg h]
noncomputable def nbK {α : Type} (n : Nat) (k : List Nat → α) : α := nbKF k (Nat.log2 n + 1) n []
theorem nbK_eq {α : Type} (n : Nat) (k : List Nat → α) : nbK n k = k (nb n) := nbKF_eq k _ n []
/-- an integer as a value -/
noncomputable def mkP (neg : Bool) (v : Nat) : AV := .agg [.bool (neg && !(Nat.beq v 0)), .str (nb v)]
noncomputable def mkI (neg : Bool) (v : Nat) : Option AV := frc v fun v => nbK v fun l => Bool.rec (motive := fun _ => Option AV) (some (.agg [.bool false, .str l])) (some (.agg [.bool true, .str l])) (Bool.rec (motive := fun _ => Bool) false (Bool.rec (motive := fun _ => Bool) true false (Nat.beq v 0)) neg)
theorem mkI_eq (neg : Bool) (v : Nat) : mkI neg v = some (mkP neg v) := by
  unfold mkI mkP
  rw [frc_eq, nbK_eq]
  cases neg <;> cases Nat.beq v 0 <;> rfl
theorem nb_nil_iff (v : Nat) : decide (nb v = []) = Nat.beq v 0 := by
  by_cases h : v = 0
  · subst h; rw [nb_zero]; rfl
  · have : Nat.beq v 0 = false := by cases hb : Nat.beq v 0 <;> simp_all
    rw [this, decide_eq_false (nb_ne h)]
section
variable {tm : List AV} {h : AHeap}
theorem bxA {x : AOpd} : evalA (.box x) tm h = some (.cells (ev tm x).cells true, .ptr h.next 0) := rfl
theorem alA {z : List AV} : evalA (.alloc z) tm h = some (.cells z true, .ptr h.next 0) := rfl
def fadI (k : Nat) (x : AV) : Option AV := match x with | .ptr i o => some (.ptr i (o + k)) | _ => none
theorem evalQ_fadI {k : Nat} {x : AOpd} : evalQ (.faddr k x) tm h = fadI k (ev tm x) := rfl
theorem fadI_0 {i : Nat} : fadI 0 (.ptr i 0) = some (.ptr i 0) := rfl
theorem fadI_1 {i : Nat} : fadI 1 (.ptr i 0) = some (.ptr i 1) := rfl
theorem celA {l : List AV} : AV.cells (.agg l) = l := rfl
theorem resC {a n : Nat} {v : AV} (hl : loadV (some n) (nth tm a) h = some v) : result [.cell a (some n)] tm h = some v := by
  have e : resOf tm h (.cell a (some n)) = some v := hl
  simp only [result, resOfs, e]
end
section
variable {h : AHeap} {i : Nat} {a b : AV} {r : Bool}
theorem l20 (hg : h.get i = some (.cells [a, b] r)) : loadV none (.ptr i 0) h = some a := loadV_at (cellsOf_get hg) rfl
theorem l21 (hg : h.get i = some (.cells [a, b] r)) : loadV none (.ptr i 1) h = some b := loadV_at (cellsOf_get hg) rfl
theorem l2S (hg : h.get i = some (.cells [a, b] r)) : loadV (some 2) (.ptr i 0) h = some (.agg [a, b]) := by
  show (match cellsOf h i with | some c => fit (some 2) 0 c | none => none) = _
  rw [cellsOf_get hg]
  show (match cut [a, b] 0 2 with | some r => some (AV.agg r) | none => none) = _
  have : cut [a, b] 0 2 = some [a, b] := cut_all [a, b]
  rw [this]
noncomputable def stI (n : Nat) (a x : AV) (h : AHeap) : Option (AV × AHeap) := evalE (.store n (.lit a) (.lit x)) (fun _ _ _ => none) [] h
theorem evalE_stI {C : CallT} {n : Nat} {a x : AOpd} {tm : List AV} : evalE (.store n a x) C tm h = stI n (ev tm a) (ev tm x) h := rfl
theorem stI2 {x y : AV} (hg : h.get i = some (.cells [a, b] true)) (hx : x.scalar = true) (hy : y.scalar = true) : stI 2 (.ptr i 0) (.agg [x, y]) h = some (aundef, h.set i (.cells [x, y] true)) := by
  have ho : ownOf h i = some [a, b] := by unfold ownOf; rw [hg]
  have hl : lay [a, b] 0 [x, y] = some [x, y] := by rw [lay_cons, lay_cons, lay_zero]
  unfold stI
  simp only [evalE, ev_lit, ho]
  show (if ([x, y] : List AV).length = 2 ∧ ([x, y] : List AV).all AV.scalar = true then (match lay [a, b] 0 [x, y] with | some c' => some (aundef, h.set i (.cells c' true)) | none => none) else none) = _
  rw [if_pos ⟨rfl, by simp [hx, hy]⟩, hl]
theorem bld2 {tm : List AV} {x y : AOpd} {z0 z1 : AV} {c : Bool} {s : List Nat} (hx : ev tm x = .bool c) (hy : ev tm y = .str s) : evalQ (.build [z0, z1] [(0, (1, x)), (1, (1, y))]) tm h = some (.agg [.bool c, .str s]) := by
  simp only [evalQ, fills, hx, hy]; rfl
theorem bld1 {tm : List AV} {y : AOpd} {z0 z1 : AV} {s : List Nat} (hy : ev tm y = .str s) : evalQ (.build [z0, z1] [(1, (1, y))]) tm h = some (.agg [z0, .str s]) := by
  simp only [evalQ, fills, hy]; rfl
end
theorem neq_str {e : EqK} {s t : List Nat} : bin .neq e (.str s) (.str t) = some (.bool (!decide (s = t))) := rfl
/-- the heap of a call with two boxes and a result -/
theorem hp3 {c0 c1 c2 : List AV} : (((AHeap.empty.push (.cells c0 true)).push (.cells c1 true)).push (.cells c2 true)).get 0 = some (.cells c0 true) ∧ (((AHeap.empty.push (.cells c0 true)).push (.cells c1 true)).push (.cells c2 true)).get 1 = some (.cells c1 true) ∧ (((AHeap.empty.push (.cells c0 true)).push (.cells c1 true)).push (.cells c2 true)).get 2 = some (.cells c2 true) := by
  refine ⟨?_, ?_, AHeap.get_push_same ((AHeap.empty.push (.cells c0 true)).push (.cells c1 true)) _⟩
  · rw [AHeap.get_push_lt _ _ (show 0 < 2 by decide), AHeap.get_push_lt _ _ (show 0 < 1 by decide)]
    exact AHeap.get_push_same AHeap.empty _
  · rw [AHeap.get_push_lt _ _ (show 1 < 2 by decide)]
    exact AHeap.get_push_same (AHeap.empty.push (.cells c0 true)) _
/-- IntMake and Make -/
def imkS : List AV → Option AV
  | [.bool c, .str s] => some (.agg [.bool (c && !decide (s = [])), .str s])
  | _ => none
theorem imk_run (c : Bool) (s : List Nat) : ∃ h', lim otab.get U3 (.fn 55) [.bool c, .str s] .empty = some (.agg [.bool (c && !decide (s = [])), .str s], h') := by
  refine run_of (fn := of55) rfl rfl ?_
  show WK _ _ [] ⟨[.bool c, .str s, aundef, aundef], .empty⟩ _
  dsimp only [of55]
  have n0 : (AHeap.empty.push (.cells [.bool false, .str []] true)).get 0 = some (.cells [.bool false, .str []] true) := AHeap.get_push_same AHeap.empty _
  have n1 : (AHeap.empty.push (.cells [.bool false, .str []] true)).get AHeap.empty.next = some (.cells [.bool false, .str []] true) := n0
  cases c with
  | true =>
    simp only [RSd.down, alA, neq_str]
    rw [bld2 (c := !decide (s = [])) rfl rfl]
    simp only [RSd.down, evalE_stI, stI2 (x := .bool (!decide (s = []))) (y := .str s) n1 rfl rfl, Ret_ret]
    exact resC (l2S (AHeap.get_set_same _ _ _))
  | false =>
    simp only [RSd.down, alA]
    rw [bld2 (c := false) rfl rfl]
    simp only [RSd.down, evalE_stI, stI2 (x := .bool false) (y := .str s) n1 rfl rfl, Ret_ret]
    exact resC (l2S (AHeap.get_set_same _ _ _))
noncomputable def U4 : Oracle := ext U3 55 imkS
theorem U4_ok : IOK Go.Proofs.Tryz.prog U4 := IOK.extL mixed tabOK otabOK U3_ok (g := 55) (fn := af55) rfl fun args av h => by
  unfold imkS at h
  split at h
  · cases h; exact ⟨rfl, rfl, imk_run _ _⟩
  · cases h
theorem rmk_run (c : Bool) (s : List Nat) : ∃ h', lim otab.get U4 (.fn 36) [.bool c, .str s] .empty = some (.agg [.bool (c && !decide (s = [])), .str s], h') := by
  refine run_of (fn := of36) rfl rfl ?_
  show WK _ _ [] ⟨[.bool c, .str s, aundef, aundef], .empty⟩ _
  dsimp only [of36]
  have n0 : (AHeap.empty.push (.cells [.bool false, .str []] true)).get 0 = some (.cells [.bool false, .str []] true) := AHeap.get_push_same AHeap.empty _
  have n1 : (AHeap.empty.push (.cells [.bool false, .str []] true)).get AHeap.empty.next = some (.cells [.bool false, .str []] true) := n0
  cases c with
  | true =>
    simp only [RSd.down, alA, neq_str]
    rw [bld2 (c := !decide (s = [])) rfl rfl]
    simp only [RSd.down, evalE_stI, stI2 (x := .bool (!decide (s = []))) (y := .str s) n1 rfl rfl, Ret_ret]
    exact resC (l2S (AHeap.get_set_same _ _ _))
  | false =>
    simp only [RSd.down, alA]
    rw [bld2 (c := false) rfl rfl]
    simp only [RSd.down, evalE_stI, stI2 (x := .bool false) (y := .str s) n1 rfl rfl, Ret_ret]
    exact resC (l2S (AHeap.get_set_same _ _ _))
noncomputable def U5 : Oracle := ext U4 36 imkS
theorem U5_ok : IOK Go.Proofs.Tryz.prog U5 := IOK.extL mixed tabOK otabOK U4_ok (g := 36) (fn := af36) rfl fun args av h => by
  unfold imkS at h
  split at h
  · cases h; exact ⟨rfl, rfl, rmk_run _ _⟩
  · cases h
theorem ncmp_run {s t : List Nat} (hs : canB s = true) (ht : canB t = true) : ∃ h', lim otab.get U5 (.fn 69) [.str s, .str t] .empty = some (.int .i64 (cmpN (nv s) (nv t)), h') := by
  refine run_of (fn := of69) rfl rfl ?_
  show WK _ _ [] ⟨[.str s, .str t, aundef, aundef, aundef, aundef], .empty⟩ _
  dsimp only [of69]
  rcases Nat.lt_trichotomy s.length t.length with hl | hl | hl
  · have e0 : (s.length : Int) < (t.length : Int) := by omega
    rw [cmpN_lt (can_len hs ht hl)]
    simp only [RSd.down, len_st, lss_int, e0, decide_true, Ret_ret, result_1]
  · obtain ⟨h1, h2⟩ := less_iff (fit3_iff (can_fit hs)).1 (fit3_iff (can_fit ht)).1 hl
    have e0 : ¬ (s.length : Int) < (t.length : Int) := by omega
    have e1 : ((s.length : Int) = (t.length : Int)) = True := eq_true (by omega)
    rcases Nat.lt_trichotomy (nv s) (nv t) with h3 | h3 | h3
    · rw [cmpN_lt h3]
      have h1' : less s t = true := by rw [h1]; exact decide_eq_true h3
      simp only [RSd.down, len_st, lss_int, e0, decide_false, eql_int, e1, decide_true, lss_str, h1', Ret_ret, result_1]
    · have h1' : less s t = false := by rw [h1]; exact decide_eq_false (by omega)
      have h2' := h2.2 h3
      subst h2'
      rw [cmpN_eq]
      have e0 : ¬ (s.length : Int) < (s.length : Int) := by omega
      simp only [RSd.down, len_st, lss_int, e0, decide_false, eql_int, decide_true, lss_str, h1', eql_str, Ret_ret, result_1]
    · rw [cmpN_gt h3]
      have h1' : less s t = false := by rw [h1]; exact decide_eq_false (by omega)
      have h2' : ¬ s = t := fun e => by rw [e] at h3; omega
      simp only [RSd.down, len_st, lss_int, e0, decide_false, eql_int, e1, decide_true, lss_str, h1', eql_str, h2', Ret_ret, result_1]
  · have e0 : ¬ (s.length : Int) < (t.length : Int) := by omega
    have e1 : ¬ (s.length : Int) = (t.length : Int) := by omega
    have h2' : ¬ s = t := fun e => by rw [e] at hl; omega
    rw [cmpN_gt (can_len ht hs hl)]
    simp only [RSd.down, len_st, lss_int, e0, decide_false, eql_int, e1, eql_str, h2', Ret_ret, result_1]
noncomputable def U6 : Oracle := ext U5 69 ncmpS
theorem U6_ok : IOK Go.Proofs.Tryz.prog U6 := IOK.extL mixed tabOK otabOK U5_ok (g := 69) (fn := af69) rfl fun args av h => by
  unfold ncmpS at h
  split at h
  · obtain ⟨h1, rfl⟩ := bif_some h
    rw [Bool.and_eq_true] at h1
    exact ⟨rfl, rfl, ncmp_run h1.1 h1.2⟩
  · cases h
end Go.AM
namespace Go.AM
open Go
theorem hmk (c : Bool) (v : Nat) : AV.agg [.bool (c && !decide (nb v = [])), .str (nb v)] = mkP c v := by unfold mkP; rw [nb_nil_iff]
theorem kcan_nil {s : List Nat} (h : kcan s = true) : decide (s = []) = Nat.beq (nv s) 0 := by
  rcases can_low (kcan_ok h).2 with e | ⟨e, h2⟩
  · subst e; rfl
  · have : 0 < nv s := Nat.lt_of_lt_of_le (Nat.pow_pos (by decide)) h2
    have hb : Nat.beq (nv s) 0 = false := by cases hb : Nat.beq (nv s) 0 with | false => rfl | true => have := Nat.eq_of_beq_eq_true hb; omega
    rw [hb]; exact decide_eq_false e
noncomputable def mulI : List AV → Option AV
  | [.agg [.bool a, .str s], .agg [.bool b, .str t]] => bif kcan s && kcan t then mkI (Bool.rec (motive := fun _ => Bool) b (Bool.rec (motive := fun _ => Bool) true false b) a) (kv s * kv t) else none
  | _ => none
theorem xor_eq (a b : Bool) : (Bool.rec (motive := fun _ => Bool) b (Bool.rec (motive := fun _ => Bool) true false b) a) = !(a == b) := by cases a <;> cases b <;> rfl
noncomputable def addP (a : Bool) (x : Nat) (b : Bool) (y : Nat) : AV := bif a == b then mkP a (x + y) else if x < y then mkP b (y - x) else mkP a (x - y)
noncomputable def addQ (a : Bool) (x : Nat) (b : Bool) (y : Nat) : Option AV := Bool.rec (motive := fun _ => Option AV) (Bool.rec (motive := fun _ => Option AV) (mkI b (y - x)) (mkI a (x - y)) (Nat.ble y x)) (mkI a (x + y)) (a == b)
theorem addP_plain (a : Bool) (x : Nat) (b : Bool) (y : Nat) : AV.plain (addP a x b y) = true := by
  unfold addP
  cases a == b with
  | true => rfl
  | false =>
    by_cases h : x < y
    · show AV.plain (if x < y then _ else _) = true
      rw [if_pos h]; rfl
    · show AV.plain (if x < y then _ else _) = true
      rw [if_neg h]; rfl
theorem addQ_eq (a : Bool) (x : Nat) (b : Bool) (y : Nat) : addQ a x b y = some (addP a x b y) := by
  unfold addQ addP
  cases a == b with
  | true => exact mkI_eq _ _
  | false =>
    by_cases h : x < y
    · have : Nat.ble y x = false := by cases hb : Nat.ble y x with | false => rfl | true => have := Nat.le_of_ble_eq_true hb; omega
      rw [this, if_pos h]; exact mkI_eq _ _
    · rw [Nat.ble_eq_true_of_le (by omega), if_neg h]; exact mkI_eq _ _
noncomputable def addI : List AV → Option AV
  | [.agg [.bool a, .str s], .agg [.bool b, .str t]] => bif kcan s && kcan t then frc (kv s) fun x => frc (kv t) fun y => addQ a x b y else none
  | _ => none
noncomputable def subI : List AV → Option AV
  | [.agg [.bool a, .str s], .agg [.bool b, .str t]] => bif kcan s && kcan t then frc (kv s) fun x => frc (kv t) fun y => addQ a x (Bool.rec (motive := fun _ => Bool) (Bool.rec (motive := fun _ => Bool) true false (Nat.beq y 0)) false b) y else none
  | _ => none
theorem neg_eq (b : Bool) (y : Nat) : (Bool.rec (motive := fun _ => Bool) (Bool.rec (motive := fun _ => Bool) true false (Nat.beq y 0)) false b) = (!b && !(Nat.beq y 0)) := by cases b <;> cases Nat.beq y 0 <;> rfl
theorem bif_run {b : Bool} {o : Option AV} {v : AV} (h : (bif b then o else none) = some v) : b = true ∧ o = some v := by
  cases b with
  | true => exact ⟨rfl, h⟩
  | false => exact nomatch h
section
variable {s t : List Nat}
theorem fit3_of (h : kcan s = true) : fit3 s = true := can_fit (kcan_ok h).2
theorem imul_run {a b : Bool} (hs : kcan s = true) (ht : kcan t = true) : ∃ h', lim otab.get U6 (.fn 30) [.agg [.bool a, .str s], .agg [.bool b, .str t]] .empty = some (mkP (!(a == b)) (nv s * nv t), h') := by
  refine run_of (fn := of30) rfl rfl ?_
  show WK _ _ [] ⟨[.agg [.bool a, .str s], .agg [.bool b, .str t], aundef, aundef, aundef], .empty⟩ _
  dsimp only [of30]
  obtain ⟨g0, g1, g2⟩ := hp3 (c0 := [.bool a, .str s]) (c1 := [.bool b, .str t]) (c2 := [.bool false, .str []])
  obtain ⟨H, hH⟩ : ∃ H, H = ((AHeap.empty.push (.cells [.bool a, .str s] true)).push (.cells [.bool b, .str t] true)).push (.cells [.bool false, .str []] true) := ⟨_, rfl⟩
  rw [← hH] at g0 g1 g2
  have cm : ∀ h, lim otab.get U6 (.fn 56) [.str s, .str t] h = some (.str (nb (nv s * nv t)), h) := fun h => lim_oracle (or_hit (spec := natMulS) (by
    show (bif fit3 s && fit3 t then some (AV.str (nb (nv s * nv t))) else none) = _
    rw [fit3_of hs, fit3_of ht]; rfl))
  have ck : ∀ c s h, lim otab.get U6 (.fn 55) [.bool c, .str s] h = some (.agg [.bool (c && !decide (s = [])), .str s], h) := fun c s h => lim_oracle rfl
  rw [← hmk]
  simp only [RSd.down, WOs_box, bxA, alA, celA, AHeap.next_push, Nat.zero_add]
  rw [← hH]
  simp only [RSd.down, WDs_faddr, WDs_load, evalQ_fadI, fadI_0, fadI_1, l20 g0, l21 g0, l20 g1, l21 g1, neq_bool, WDV_succ, cm, WDE_some, checks, lower, recheck, AOp.cls, AV.beq_refl, cond_true, true_and, ck, WDs_store, evalE_stI, stI2 (x := .bool (!(a == b) && !decide (nb (nv s * nv t) = []))) (y := .str (nb (nv s * nv t))) g2 rfl rfl, Ret_ret]
  exact resC (l2S (AHeap.get_set_same _ _ _))
noncomputable def U7 : Oracle := ext U6 30 mulI
theorem U7_ok : IOK Go.Proofs.Tryz.prog U7 := IOK.extL mixed tabOK otabOK U6_ok (g := 30) (fn := af30) rfl fun args av h => by
  unfold mulI at h
  split at h
  · obtain ⟨h1, h2⟩ := bif_run h
    rw [Bool.and_eq_true] at h1
    rw [mkI_eq, xor_eq, kv_eq, kv_eq] at h2
    cases h2
    exact ⟨rfl, rfl, imul_run h1.1 h1.2⟩
  · cases h
theorem rimul_run {a b : Bool} (hs : kcan s = true) (ht : kcan t = true) : ∃ h', lim otab.get U7 (.fn 10) [.agg [.bool a, .str s], .agg [.bool b, .str t]] .empty = some (mkP (!(a == b)) (nv s * nv t), h') := by
  refine run_of (fn := of10) rfl rfl ?_
  show WK _ _ [] ⟨[.agg [.bool a, .str s], .agg [.bool b, .str t], aundef, aundef, aundef], .empty⟩ _
  dsimp only [of10]
  obtain ⟨g0, g1, g2⟩ := hp3 (c0 := [.bool a, .str s]) (c1 := [.bool b, .str t]) (c2 := [.bool false, .str []])
  obtain ⟨H, hH⟩ : ∃ H, H = ((AHeap.empty.push (.cells [.bool a, .str s] true)).push (.cells [.bool b, .str t] true)).push (.cells [.bool false, .str []] true) := ⟨_, rfl⟩
  rw [← hH] at g0 g1 g2
  have cm : ∀ h, lim otab.get U7 (.fn 37) [.str s, .str t] h = some (.str (nb (nv s * nv t)), h) := fun h => lim_oracle (or_hit (spec := rmulS) (by
    show (bif fitR s && fitR t then some (AV.str (nb (nv s * nv t))) else none) = _
    rw [(kcan_ok hs).1, (kcan_ok ht).1]; rfl))
  have ck : ∀ c s h, lim otab.get U7 (.fn 36) [.bool c, .str s] h = some (.agg [.bool (c && !decide (s = [])), .str s], h) := fun c s h => lim_oracle rfl
  rw [← hmk]
  simp only [RSd.down, WOs_box, bxA, alA, celA, AHeap.next_push, Nat.zero_add]
  rw [← hH]
  simp only [RSd.down, WDs_faddr, WDs_load, evalQ_fadI, fadI_0, fadI_1, l20 g0, l21 g0, l20 g1, l21 g1, neq_bool, WDV_succ, cm, WDE_some, checks, lower, recheck, AOp.cls, AV.beq_refl, cond_true, true_and, ck, WDs_store, evalE_stI, stI2 (x := .bool (!(a == b) && !decide (nb (nv s * nv t) = []))) (y := .str (nb (nv s * nv t))) g2 rfl rfl, Ret_ret]
  exact resC (l2S (AHeap.get_set_same _ _ _))
noncomputable def U8 : Oracle := ext U7 10 mulI
theorem U8_ok : IOK Go.Proofs.Tryz.prog U8 := IOK.extL mixed tabOK otabOK U7_ok (g := 10) (fn := af10) rfl fun args av h => by
  unfold mulI at h
  split at h
  · obtain ⟨h1, h2⟩ := bif_run h
    rw [Bool.and_eq_true] at h1
    rw [mkI_eq, xor_eq, kv_eq, kv_eq] at h2
    cases h2
    exact ⟨rfl, rfl, rimul_run h1.1 h1.2⟩
  · cases h
theorem iadd_run {a b : Bool} (hs : kcan s = true) (ht : kcan t = true) : ∃ h', lim otab.get U8 (.fn 53) [.agg [.bool a, .str s], .agg [.bool b, .str t]] .empty = some (addP a (nv s) b (nv t), h') := by
  refine run_of (fn := of53) rfl rfl ?_
  show WK _ _ [] ⟨[.agg [.bool a, .str s], .agg [.bool b, .str t], aundef, aundef, aundef], .empty⟩ _
  dsimp only [of53]
  obtain ⟨g0, g1, g2⟩ := hp3 (c0 := [.bool a, .str s]) (c1 := [.bool b, .str t]) (c2 := [.bool false, .str []])
  obtain ⟨H, hH⟩ : ∃ H, H = ((AHeap.empty.push (.cells [.bool a, .str s] true)).push (.cells [.bool b, .str t] true)).push (.cells [.bool false, .str []] true) := ⟨_, rfl⟩
  rw [← hH] at g0 g1 g2
  have ca : ∀ h, lim otab.get U8 (.fn 68) [.str s, .str t] h = some (.str (nb (nv s + nv t)), h) := fun h => lim_oracle (or_hit (spec := natAddS) (by
    show (bif fit3 s && fit3 t then some (AV.str (nb (nv s + nv t))) else none) = _
    rw [fit3_of hs, fit3_of ht]; rfl))
  have cc : ∀ h, lim otab.get U8 (.fn 69) [.str s, .str t] h = some (.int .i64 (cmpN (nv s) (nv t)), h) := fun h => lim_oracle (or_hit (spec := ncmpS) (by
    show (bif canB s && canB t then some (AV.int .i64 (cmpN (nv s) (nv t))) else none) = _
    rw [(kcan_ok hs).2, (kcan_ok ht).2]; rfl))
  have ck : ∀ c s h, lim otab.get U8 (.fn 55) [.bool c, .str s] h = some (.agg [.bool (c && !decide (s = [])), .str s], h) := fun c s h => lim_oracle rfl
  simp only [RSd.down, WOs_box, bxA, alA, celA, AHeap.next_push, Nat.zero_add]
  rw [← hH]
  unfold addP
  cases hab : (a == b) with
  | true =>
    rw [cond_true, ← hmk]
    · simp only [RSd.down, WOs_faddr, WDs_faddr, WDs_load, evalQ_fadI, fadI_0, fadI_1, l20 g0, l21 g0, l20 g1, l21 g1, eql_bool, WDV_succ, WDE_some, checks, lower, recheck, AOp.cls, AV.beq_refl, cond_true, true_and, ck, WDs_store, evalE_stI, hab, ca, stI2 (x := .bool (a && !decide (nb (nv s + nv t) = []))) (y := .str (nb (nv s + nv t))) g2 rfl rfl, Ret_ret]
      exact resC (l2S (AHeap.get_set_same _ _ _))
  | false =>
    rw [cond_false]
    by_cases hlt : nv s < nv t
    · have hle : nv s ≤ nv t := by omega
      have cs : ∀ h, lim otab.get U8 (.fn 70) [.str t, .str s] h = some (.str (nb (nv t - nv s)), h) := fun h => lim_oracle (or_hit (spec := natSubS) (by
      show (bif fit3 t && fit3 s && Nat.ble (nv s) (nv t) then some (AV.str (nb (nv t - nv s))) else none) = _
      rw [fit3_of ht, fit3_of hs, Nat.ble_eq_true_of_le hle]; rfl))
      rw [if_pos hlt, ← hmk]
      simp only [RSd.down, WOs_faddr, WDs_faddr, WDs_load, evalQ_fadI, fadI_0, fadI_1, l20 g0, l21 g0, l20 g1, l21 g1, eql_bool, WDV_succ, WDE_some, checks, lower, recheck, AOp.cls, AV.beq_refl, cond_true, true_and, ck, WDs_store, evalE_stI, hab, cc, cmpN_lt hlt, lss_int, show decide ((-1 : Int) < 0) = true from rfl, cs, stI2 (x := .bool (b && !decide (nb (nv t - nv s) = []))) (y := .str (nb (nv t - nv s))) g2 rfl rfl, Ret_ret]
      exact resC (l2S (AHeap.get_set_same _ _ _))
    · have hle : nv t ≤ nv s := by omega
      have cs : ∀ h, lim otab.get U8 (.fn 70) [.str s, .str t] h = some (.str (nb (nv s - nv t)), h) := fun h => lim_oracle (or_hit (spec := natSubS) (by
      show (bif fit3 s && fit3 t && Nat.ble (nv t) (nv s) then some (AV.str (nb (nv s - nv t))) else none) = _
      rw [fit3_of hs, fit3_of ht, Nat.ble_eq_true_of_le hle]; rfl))
      have hc0 : (cmpN (nv s) (nv t) < 0) = False := by
        rcases Nat.lt_or_ge (nv t) (nv s) with g | g
        · rw [cmpN_gt g]; simp
        · have : nv s = nv t := by omega
          rw [this, cmpN_eq]; simp
      rw [if_neg hlt, ← hmk]
      simp only [RSd.down, WOs_faddr, WDs_faddr, WDs_load, evalQ_fadI, fadI_0, fadI_1, l20 g0, l21 g0, l20 g1, l21 g1, eql_bool, WDV_succ, WDE_some, checks, lower, recheck, AOp.cls, AV.beq_refl, cond_true, true_and, ck, WDs_store, evalE_stI, hab, cc, lss_int, hc0, decide_false, decide_true, cs, stI2 (x := .bool (a && !decide (nb (nv s - nv t) = []))) (y := .str (nb (nv s - nv t))) g2 rfl rfl, Ret_ret]
      exact resC (l2S (AHeap.get_set_same _ _ _))
noncomputable def U9 : Oracle := ext U8 53 addI
theorem U9_ok : IOK Go.Proofs.Tryz.prog U9 := IOK.extL mixed tabOK otabOK U8_ok (g := 53) (fn := af53) rfl fun args av h => by
  unfold addI at h
  split at h
  · obtain ⟨h1, h2⟩ := bif_run h
    rw [Bool.and_eq_true] at h1
    rw [frc_eq, frc_eq, kv_eq, kv_eq, addQ_eq] at h2
    cases h2
    exact ⟨rfl, addP_plain _ _ _ _, iadd_run h1.1 h1.2⟩
  · cases h
theorem riadd_run {a b : Bool} (hs : kcan s = true) (ht : kcan t = true) : ∃ h', lim otab.get U9 (.fn 34) [.agg [.bool a, .str s], .agg [.bool b, .str t]] .empty = some (addP a (nv s) b (nv t), h') := by
  refine run_of (fn := of34) rfl rfl ?_
  show WK _ _ [] ⟨[.agg [.bool a, .str s], .agg [.bool b, .str t], aundef, aundef, aundef], .empty⟩ _
  dsimp only [of34]
  obtain ⟨g0, g1, g2⟩ := hp3 (c0 := [.bool a, .str s]) (c1 := [.bool b, .str t]) (c2 := [.bool false, .str []])
  obtain ⟨H, hH⟩ : ∃ H, H = ((AHeap.empty.push (.cells [.bool a, .str s] true)).push (.cells [.bool b, .str t] true)).push (.cells [.bool false, .str []] true) := ⟨_, rfl⟩
  rw [← hH] at g0 g1 g2
  have ca : ∀ h, lim otab.get U9 (.fn 59) [.str s, .str t] h = some (.str (nb (nv s + nv t)), h) := fun h => lim_oracle (or_hit (spec := raddS) (by
    show (bif fitR s && fitR t then some (AV.str (nb (nv s + nv t))) else none) = _
    rw [(kcan_ok hs).1, (kcan_ok ht).1]; rfl))
  have cc : ∀ h, lim otab.get U9 (.fn 39) [.str s, .str t] h = some (.int .i64 (cmpN (nv s) (nv t)), h) := fun h => lim_oracle (or_hit (spec := ncmpS) (by
    show (bif canB s && canB t then some (AV.int .i64 (cmpN (nv s) (nv t))) else none) = _
    rw [(kcan_ok hs).2, (kcan_ok ht).2]; rfl))
  have ck : ∀ c s h, lim otab.get U9 (.fn 36) [.bool c, .str s] h = some (.agg [.bool (c && !decide (s = [])), .str s], h) := fun c s h => lim_oracle rfl
  simp only [RSd.down, WOs_box, bxA, alA, celA, AHeap.next_push, Nat.zero_add]
  rw [← hH]
  unfold addP
  cases hab : (a == b) with
  | true =>
    rw [cond_true, ← hmk]
    · simp only [RSd.down, WOs_faddr, WDs_faddr, WDs_load, evalQ_fadI, fadI_0, fadI_1, l20 g0, l21 g0, l20 g1, l21 g1, eql_bool, WDV_succ, WDE_some, checks, lower, recheck, AOp.cls, AV.beq_refl, cond_true, true_and, ck, WDs_store, evalE_stI, hab, ca, stI2 (x := .bool (a && !decide (nb (nv s + nv t) = []))) (y := .str (nb (nv s + nv t))) g2 rfl rfl, Ret_ret]
      exact resC (l2S (AHeap.get_set_same _ _ _))
  | false =>
    rw [cond_false]
    by_cases hlt : nv s < nv t
    · have hle : nv s ≤ nv t := by omega
      have cs : ∀ h, lim otab.get U9 (.fn 60) [.str t, .str s] h = some (.str (nb (nv t - nv s)), h) := fun h => lim_oracle (or_hit (spec := rsubS) (by
      show (bif fitR t && fitR s && (canB t && canB s) && Nat.ble (nv s) (nv t) then some (AV.str (nb (nv t - nv s))) else none) = _
      rw [(kcan_ok ht).1, (kcan_ok hs).1, (kcan_ok ht).2, (kcan_ok hs).2, Nat.ble_eq_true_of_le hle]; rfl))
      rw [if_pos hlt, ← hmk]
      simp only [RSd.down, WOs_faddr, WDs_faddr, WDs_load, evalQ_fadI, fadI_0, fadI_1, l20 g0, l21 g0, l20 g1, l21 g1, eql_bool, WDV_succ, WDE_some, checks, lower, recheck, AOp.cls, AV.beq_refl, cond_true, true_and, ck, WDs_store, evalE_stI, hab, cc, cmpN_lt hlt, geq_int, show decide ((0 : Int) ≤ -1) = false from rfl, cs, stI2 (x := .bool (b && !decide (nb (nv t - nv s) = []))) (y := .str (nb (nv t - nv s))) g2 rfl rfl, Ret_ret]
      exact resC (l2S (AHeap.get_set_same _ _ _))
    · have hle : nv t ≤ nv s := by omega
      have cs : ∀ h, lim otab.get U9 (.fn 60) [.str s, .str t] h = some (.str (nb (nv s - nv t)), h) := fun h => lim_oracle (or_hit (spec := rsubS) (by
      show (bif fitR s && fitR t && (canB s && canB t) && Nat.ble (nv t) (nv s) then some (AV.str (nb (nv s - nv t))) else none) = _
      rw [(kcan_ok hs).1, (kcan_ok ht).1, (kcan_ok hs).2, (kcan_ok ht).2, Nat.ble_eq_true_of_le hle]; rfl))
      have hc0 : (0 ≤ cmpN (nv s) (nv t)) = True := by
        rcases Nat.lt_or_ge (nv t) (nv s) with g | g
        · rw [cmpN_gt g]; simp
        · have : nv s = nv t := by omega
          rw [this, cmpN_eq]; simp
      rw [if_neg hlt, ← hmk]
      simp only [RSd.down, WOs_faddr, WDs_faddr, WDs_load, evalQ_fadI, fadI_0, fadI_1, l20 g0, l21 g0, l20 g1, l21 g1, eql_bool, WDV_succ, WDE_some, checks, lower, recheck, AOp.cls, AV.beq_refl, cond_true, true_and, ck, WDs_store, evalE_stI, hab, cc, geq_int, hc0, decide_false, decide_true, cs, stI2 (x := .bool (a && !decide (nb (nv s - nv t) = []))) (y := .str (nb (nv s - nv t))) g2 rfl rfl, Ret_ret]
      exact resC (l2S (AHeap.get_set_same _ _ _))
noncomputable def U10 : Oracle := ext U9 34 addI
theorem U10_ok : IOK Go.Proofs.Tryz.prog U10 := IOK.extL mixed tabOK otabOK U9_ok (g := 34) (fn := af34) rfl fun args av h => by
  unfold addI at h
  split at h
  · obtain ⟨h1, h2⟩ := bif_run h
    rw [Bool.and_eq_true] at h1
    rw [frc_eq, frc_eq, kv_eq, kv_eq, addQ_eq] at h2
    cases h2
    exact ⟨rfl, addP_plain _ _ _ _, riadd_run h1.1 h1.2⟩
  · cases h
end
end Go.AM

namespace Go.AM
open Go
theorem neg_u64 {n : Int} (h1 : n < 0) (h2 : -9223372036854775808 ≤ n) : un .neg (.int .u64 (n % 18446744073709551616)) = some (.int .u64 ((n.natAbs : Nat) : Int)) := by
  show some (AV.int .u64 ((0 - (n % 18446744073709551616)) % 18446744073709551616)) = _
  congr 2; omega
theorem toU_neg {n : Int} : toIntV .u64 (.int .i64 n) = some (.int .u64 (n % 18446744073709551616)) := rfl
noncomputable def ofI : List AV → Option AV
  | [.int .i64 n] => bif decide (-1000000000000000000 ≤ n) && decide (n ≤ 1000000000000000000) then mkI (decide (n < 0)) n.natAbs else none
  | _ => none
section
variable {h : AHeap} {i : Nat}
theorem hp1 {c : List AV} : (AHeap.empty.push (.cells c true)).get 0 = some (.cells c true) := AHeap.get_push_same AHeap.empty _
end
theorem natOf_ans {u : Nat} (hu : u < 18446744073709551616) : natOfS [.int .u64 (u : Int)] = some (.str (nb u)) := by
  have h1 : u64ok (u : Int) = true := by unfold u64ok; rw [decide_eq_true (by omega), decide_eq_true (by omega)]; rfl
  show (bif u64ok (u : Int) then some (AV.str (nb (u : Int).toNat)) else none) = _
  rw [h1, Int.toNat_natCast]; rfl
noncomputable def W10 : Oracle := ext U10 57 natOfS
theorem W10_ok : IOK Go.Proofs.Tryz.prog W10 := IOK.join U10_ok J1_ok fun args av h e => ext_hit e
theorem iof_run {n : Int} (h1 : -1000000000000000000 ≤ n) (h2 : n ≤ 1000000000000000000) : ∃ h', lim otab.get W10 (.fn 31) [.int .i64 n] .empty = some (mkP (decide (n < 0)) n.natAbs, h') := by
  refine run_of (fn := of31) rfl rfl ?_
  show WK _ _ [] ⟨[.int .i64 n, aundef, aundef], .empty⟩ _
  dsimp only [of31]
  have n1 : (AHeap.empty.push (.cells [.bool false, .str []] true)).get AHeap.empty.next = some (.cells [.bool false, .str []] true) := hp1
  have cn : ∀ (u : Nat) h, u < 18446744073709551616 → lim otab.get W10 (.fn 57) [.int .u64 (u : Int)] h = some (.str (nb u), h) := fun u h hu => lim_oracle (ext_hit (natOf_ans hu))
  by_cases hn : n < 0
  · simp only [RSd.down, alA, lss_int, hn, decide_true, toU_neg, neg_u64 hn (by omega), cn n.natAbs _ (by omega)]
    rw [bld2 (c := true) rfl rfl]
    simp only [RSd.down, evalE_stI, stI2 (x := .bool true) (y := .str (nb n.natAbs)) n1 rfl rfl, Ret_ret]
    refine resC ?_
    have : Nat.beq n.natAbs 0 = false := by cases hb : Nat.beq n.natAbs 0 with | false => rfl | true => have := Nat.eq_of_beq_eq_true hb; omega
    unfold mkP
    rw [this]
    exact l2S (AHeap.get_set_same _ _ _)
  · have e : n % 18446744073709551616 = ((n.natAbs : Nat) : Int) := by omega
    simp only [RSd.down, alA, lss_int, hn, decide_false, toU_neg, e, cn n.natAbs _ (by omega)]
    rw [bld1 rfl]
    simp only [RSd.down, evalE_stI, stI2 (x := .bool false) (y := .str (nb n.natAbs)) n1 rfl rfl, Ret_ret]
    exact resC (l2S (AHeap.get_set_same _ _ _))
theorem dec_and {n : Int} (h : (decide (-1000000000000000000 ≤ n) && decide (n ≤ 1000000000000000000)) = true) : -1000000000000000000 ≤ n ∧ n ≤ 1000000000000000000 := by
  rw [Bool.and_eq_true, decide_eq_true_eq, decide_eq_true_eq] at h; exact h
noncomputable def U11 : Oracle := ext W10 31 ofI
theorem U11_ok : IOK Go.Proofs.Tryz.prog U11 := IOK.extL mixed tabOK otabOK W10_ok (g := 31) (fn := af31) rfl fun args av h => by
  unfold ofI at h
  split at h
  · obtain ⟨h1, h2⟩ := bif_run h
    rw [mkI_eq] at h2
    cases h2
    exact ⟨rfl, rfl, iof_run (dec_and h1).1 (dec_and h1).2⟩
  · cases h
theorem rof_ans {u : Nat} (hu : u < 18446744073709551616) : rofS [.int .u64 (u : Int)] = some (.str (nb u)) := natOf_ans hu
theorem toU_pos {n : Int} (h1 : 0 ≤ n) (h2 : n < 18446744073709551616) : toIntV .u64 (.int .i64 n) = some (.int .u64 n) := by
  show some (AV.int .u64 (n % 18446744073709551616)) = _
  rw [Int.emod_eq_of_lt h1 h2]
theorem un_neg {n : Int} (h1 : -9223372036854775807 ≤ n) (h2 : n ≤ 9223372036854775807) : un .neg (.int .i64 n) = some (.int .i64 (-n)) := by
  show some (AV.int .i64 (awrap .i64 (0 - n))) = _
  rw [awrap_id (by omega) (by omega), Int.zero_sub]
noncomputable def W11 : Oracle := ext U11 38 rofS
theorem W11_ok : IOK Go.Proofs.Tryz.prog W11 := IOK.join U11_ok J7_ok fun args av h e => ext_hit e
theorem riof_run {n : Int} (h1 : -1000000000000000000 ≤ n) (h2 : n ≤ 1000000000000000000) : ∃ h', lim otab.get W11 (.fn 11) [.int .i64 n] .empty = some (mkP (decide (n < 0)) n.natAbs, h') := by
  refine run_of (fn := of11) rfl rfl ?_
  show WK _ _ [] ⟨[.int .i64 n, aundef, aundef], .empty⟩ _
  dsimp only [of11]
  have n1 : (AHeap.empty.push (.cells [.bool false, .str []] true)).get AHeap.empty.next = some (.cells [.bool false, .str []] true) := hp1
  have cn : ∀ (u : Nat) h, u < 18446744073709551616 → lim otab.get W11 (.fn 38) [.int .u64 (u : Int)] h = some (.str (nb u), h) := fun u h hu => lim_oracle (ext_hit (rof_ans hu))
  by_cases hn : n < 0
  · have e1 : -(n + 1) = ((n.natAbs - 1 : Nat) : Int) := by omega
    have a1 : bin .add .no (.int .u64 ((n.natAbs - 1 : Nat) : Int)) (.int .u64 1) = some (.int .u64 ((n.natAbs - 1 + 1 : Nat) : Int)) := add_u64 (x := n.natAbs - 1) (y := 1) (by omega)
    rw [show n.natAbs - 1 + 1 = n.natAbs by omega] at a1
    simp (disch := omega) only [RSd.down, alA, lss_int, hn, decide_true, add_i64, un_neg, e1, toIntV_u64, a1, cn]
    rw [bld2 (c := true) rfl rfl]
    simp only [RSd.down, evalE_stI, stI2 (x := .bool true) (y := .str (nb n.natAbs)) n1 rfl rfl, Ret_ret]
    refine resC ?_
    have : Nat.beq n.natAbs 0 = false := by cases hb : Nat.beq n.natAbs 0 with | false => rfl | true => have := Nat.eq_of_beq_eq_true hb; omega
    unfold mkP
    rw [this]
    exact l2S (AHeap.get_set_same _ _ _)
  · have e : n % 18446744073709551616 = ((n.natAbs : Nat) : Int) := by omega
    simp only [RSd.down, alA, lss_int, hn, decide_false, toU_neg, e, cn n.natAbs _ (by omega)]
    rw [bld1 rfl]
    simp only [RSd.down, evalE_stI, stI2 (x := .bool false) (y := .str (nb n.natAbs)) n1 rfl rfl, Ret_ret]
    exact resC (l2S (AHeap.get_set_same _ _ _))
noncomputable def U12 : Oracle := ext W11 11 ofI
theorem U12_ok : IOK Go.Proofs.Tryz.prog U12 := IOK.extL mixed tabOK otabOK W11_ok (g := 11) (fn := af11) rfl fun args av h => by
  unfold ofI at h
  split at h
  · obtain ⟨h1, h2⟩ := bif_run h
    rw [mkI_eq] at h2
    cases h2
    exact ⟨rfl, rfl, riof_run (dec_and h1).1 (dec_and h1).2⟩
  · cases h
/-- IntNeg -/
def inegS : List AV → Option AV
  | [.agg [.bool b, .str t]] => some (.agg [.bool (!b && !decide (t = [])), .str t])
  | _ => none
theorem hp2 {c0 c1 : List AV} : ((AHeap.empty.push (.cells c0 true)).push (.cells c1 true)).get 0 = some (.cells c0 true) ∧ ((AHeap.empty.push (.cells c0 true)).push (.cells c1 true)).get 1 = some (.cells c1 true) := by
  refine ⟨?_, AHeap.get_push_same (AHeap.empty.push (.cells c0 true)) _⟩
  rw [AHeap.get_push_lt _ _ (show 0 < 1 by decide)]
  exact AHeap.get_push_same AHeap.empty _
theorem ineg_run (b : Bool) (t : List Nat) : ∃ h', lim otab.get U12 (.fn 54) [.agg [.bool b, .str t]] .empty = some (.agg [.bool (!b && !decide (t = [])), .str t], h') := by
  refine run_of (fn := of54) rfl rfl ?_
  show WK _ _ [] ⟨[.agg [.bool b, .str t], aundef, aundef], .empty⟩ _
  dsimp only [of54]
  obtain ⟨g0, g1⟩ := hp2 (c0 := [.bool b, .str t]) (c1 := [.bool false, .str []])
  obtain ⟨H, hH⟩ : ∃ H, H = (AHeap.empty.push (.cells [.bool b, .str t] true)).push (.cells [.bool false, .str []] true) := ⟨_, rfl⟩
  rw [← hH] at g0 g1
  have ck : ∀ c s h, lim otab.get U12 (.fn 55) [.bool c, .str s] h = some (.agg [.bool (c && !decide (s = [])), .str s], h) := fun c s h => lim_oracle rfl
  simp only [RSd.down, WOs_box, bxA, alA, celA, AHeap.next_push, Nat.zero_add]
  rw [← hH]
  simp only [RSd.down, WOs_faddr, evalQ_fadI, fadI_0, fadI_1, l20 g0, l21 g0, not_bool, ck, evalE_stI, stI2 (x := .bool (!b && !decide (t = []))) (y := .str t) g1 rfl rfl, Ret_ret]
  exact resC (l2S (AHeap.get_set_same _ _ _))
noncomputable def U13 : Oracle := ext U12 54 inegS
theorem U13_ok : IOK Go.Proofs.Tryz.prog U13 := IOK.extL mixed tabOK otabOK U12_ok (g := 54) (fn := af54) rfl fun args av h => by
  unfold inegS at h
  split at h
  · cases h; exact ⟨rfl, rfl, ineg_run _ _⟩
  · cases h
theorem isub_run {a b : Bool} {s t : List Nat} (hs : kcan s = true) (ht : kcan t = true) : ∃ h', lim otab.get U13 (.fn 29) [.agg [.bool a, .str s], .agg [.bool b, .str t]] .empty = some (addP a (nv s) (!b && !(Nat.beq (nv t) 0)) (nv t), h') := by
  refine run_of (fn := of29) rfl rfl ?_
  show WK _ _ [] ⟨[.agg [.bool a, .str s], .agg [.bool b, .str t], aundef], .empty⟩ _
  dsimp only [of29]
  obtain ⟨g0, g1, g2⟩ := hp3 (c0 := [.bool a, .str s]) (c1 := [.bool b, .str t]) (c2 := [.bool false, .str []])
  obtain ⟨H, hH⟩ : ∃ H, H = ((AHeap.empty.push (.cells [.bool a, .str s] true)).push (.cells [.bool b, .str t] true)).push (.cells [.bool false, .str []] true) := ⟨_, rfl⟩
  rw [← hH] at g0 g1 g2
  have cn : ∀ h, lim otab.get U13 (.fn 54) [.agg [.bool b, .str t]] h = some (.agg [.bool (!b && !(Nat.beq (nv t) 0)), .str t], h) := fun h => by
    rw [← kcan_nil ht]; exact lim_oracle rfl
  have ca : ∀ c h, lim otab.get U13 (.fn 53) [.agg [.bool a, .str s], .agg [.bool c, .str t]] h = some (addP a (nv s) c (nv t), h) := fun c h => lim_oracle (or_hit (spec := addI) (by
    show (bif kcan s && kcan t then frc (kv s) fun x => frc (kv t) fun y => addQ a x c y else none) = _
    rw [hs, ht, frc_eq, frc_eq, kv_eq, kv_eq, addQ_eq]; rfl))
  obtain ⟨c', v', hv⟩ : ∃ c' v', addP a (nv s) (!b && !(Nat.beq (nv t) 0)) (nv t) = .agg [.bool c', .str v'] := by
    unfold addP
    cases a == (!b && !(Nat.beq (nv t) 0)) with
    | true => exact ⟨_, _, rfl⟩
    | false =>
      rw [cond_false]
      by_cases h : nv s < nv t
      · rw [if_pos h]; exact ⟨_, _, rfl⟩
      · rw [if_neg h]; exact ⟨_, _, rfl⟩
  simp only [RSd.down, WOs_box, bxA, alA, celA, AHeap.next_push, Nat.zero_add]
  rw [← hH]
  simp only [RSd.down, WDs_load, l2S g0, l2S g1, WDV_succ, WDE_some, checks, lower, recheck, AOp.cls, AV.beq_refl, cond_true, true_and, cn, ca, hv, WDs_store, evalE_stI, stI2 (x := .bool c') (y := .str v') g2 rfl rfl, Ret_ret]
  exact resC (l2S (AHeap.get_set_same _ _ _))
noncomputable def U14 : Oracle := ext U13 29 subI
theorem U14_ok : IOK Go.Proofs.Tryz.prog U14 := IOK.extL mixed tabOK otabOK U13_ok (g := 29) (fn := af29) rfl fun args av h => by
  unfold subI at h
  split at h
  · obtain ⟨h1, h2⟩ := bif_run h
    rw [Bool.and_eq_true] at h1
    rw [frc_eq, frc_eq, kv_eq, kv_eq, neg_eq, addQ_eq] at h2
    cases h2
    exact ⟨rfl, addP_plain _ _ _ _, isub_run h1.1 h1.2⟩
  · cases h
noncomputable def W14 : Oracle := ext U14 58 natUintS
theorem W14_ok : IOK Go.Proofs.Tryz.prog W14 := IOK.join U14_ok J2_ok fun args av h e => ext_hit e
/-- IntTo, below 2^63 and from 2^64 on -/
noncomputable def itoI : List AV → Option AV
  | [.agg [.bool a, .str s]] => bif kcan s then frc (kv s) fun v => (bif Nat.ble 9223372036854775808 v then (bif Nat.ble 18446744073709551616 v then some (.tup [.int .i64 0, .bool false]) else none)
      else some (.tup [.int .i64 (Bool.rec (motive := fun _ => Int) (Int.ofNat v) (-(Int.ofNat v)) a), .bool true])) else none
  | _ => none
theorem toI_neg {v : Nat} (hv : v < 9223372036854775808) : toIntV .i64 (.int .u64 ((0 - (v : Int)) % 18446744073709551616)) = some (.int .i64 (-(v : Int))) := by
  by_cases h0 : v = 0
  · subst h0; rfl
  · have e : (0 - (v : Int)) % 18446744073709551616 = Int.ofNat (18446744073709551616 - v) := by
      show _ = ((18446744073709551616 - v : Nat) : Int)
      omega
    rw [e]
    show some (AV.int .i64 (bif Nat.blt (18446744073709551616 - v) 9223372036854775808 then Int.ofNat (18446744073709551616 - v) else (if ((18446744073709551616 - v : Nat) : Int) % 18446744073709551616 ≥ 9223372036854775808 then ((18446744073709551616 - v : Nat) : Int) % 18446744073709551616 - 18446744073709551616 else ((18446744073709551616 - v : Nat) : Int) % 18446744073709551616))) = _
    rw [blt_ff (by omega), cond_false, if_pos (by omega)]
    congr 2; omega
theorem ito_small {a : Bool} {s : List Nat} (hs : kcan s = true) (hv : nv s < 9223372036854775808) : ∃ h', lim otab.get W14 (.fn 32) [.agg [.bool a, .str s]] .empty = some (.tup [.int .i64 (Bool.rec (motive := fun _ => Int) (Int.ofNat (nv s)) (-(Int.ofNat (nv s))) a), .bool true], h') := by
  refine run_of (fn := of32) rfl rfl ?_
  show WK _ _ [] ⟨[.agg [.bool a, .str s], aundef, aundef, aundef, aundef], .empty⟩ _
  dsimp only [of32]
  have g0 := hp1 (c := [.bool a, .str s])
  have g0' : (AHeap.empty.push (.cells [.bool a, .str s] true)).get AHeap.empty.next = some (.cells [.bool a, .str s] true) := g0
  have cu : ∀ h, lim otab.get W14 (.fn 58) [.str s] h = some (.tup [.int .u64 (nv s : Int), .bool true], h) := fun h => lim_oracle (or_hit (spec := natUintS) (by
    show (bif fit3 s then some (bif Nat.blt (nv s) 18446744073709551616 then AV.tup [.int .u64 (nv s : Int), .bool true] else .tup [.int .u64 0, .bool false]) else none) = _
    rw [can_fit (kcan_ok hs).2, Nat.blt_eq.mpr (show nv s < 18446744073709551616 by omega)]; rfl))
  have e1 : ¬ (9223372036854775808 : Int) < (nv s : Int) := by omega
  have e2 : ¬ (nv s : Int) = 9223372036854775808 := by omega
  simp only [RSd.down, WOs_box, bxA, celA]
  cases a with
  | true =>
    have e3 : un .neg (.int .u64 (nv s : Int)) = some (.int .u64 ((0 - (nv s : Int)) % 18446744073709551616)) := rfl
    have ei : toIntV .i64 (.int .u64 ((0 - (nv s : Int)) % 18446744073709551616)) = some (.int .i64 (-(Int.ofNat (nv s)))) := toI_neg hv
    simp only [RSd.down, WOs_faddr, evalQ_fadI, fadI_0, fadI_1, l20 g0, l21 g0, l20 g0', l21 g0', cu, not_bool, Bool.not_true, gtr_int, e1, decide_false, eql_int, e2, e3, ei, Ret_ret, result_2]
  | false =>
    have ei : toIntV .i64 (.int .u64 (nv s : Int)) = some (.int .i64 (Int.ofNat (nv s))) := toIntV_i64 (by omega) (by omega)
    simp only [RSd.down, WOs_faddr, evalQ_fadI, fadI_0, fadI_1, l20 g0, l21 g0, l20 g0', l21 g0', cu, not_bool, Bool.not_true, gtr_int, e1, decide_false, eql_int, e2, ei, Ret_ret, result_2]
theorem ito_big {a : Bool} {s : List Nat} (hs : kcan s = true) (hv : 18446744073709551616 ≤ nv s) : ∃ h', lim otab.get W14 (.fn 32) [.agg [.bool a, .str s]] .empty = some (.tup [.int .i64 0, .bool false], h') := by
  refine run_of (fn := of32) rfl rfl ?_
  show WK _ _ [] ⟨[.agg [.bool a, .str s], aundef, aundef, aundef, aundef], .empty⟩ _
  dsimp only [of32]
  have g0 := hp1 (c := [.bool a, .str s])
  have g0' : (AHeap.empty.push (.cells [.bool a, .str s] true)).get AHeap.empty.next = some (.cells [.bool a, .str s] true) := g0
  have cu : ∀ h, lim otab.get W14 (.fn 58) [.str s] h = some (.tup [.int .u64 0, .bool false], h) := fun h => lim_oracle (or_hit (spec := natUintS) (by
    show (bif fit3 s then some (bif Nat.blt (nv s) 18446744073709551616 then AV.tup [.int .u64 (nv s : Int), .bool true] else .tup [.int .u64 0, .bool false]) else none) = _
    rw [can_fit (kcan_ok hs).2, blt_ff (show ¬ nv s < 18446744073709551616 by omega)]; rfl))
  simp only [RSd.down, WOs_box, bxA, celA, WOs_faddr, evalQ_fadI, fadI_0, fadI_1, l20 g0, l21 g0, l20 g0', l21 g0', cu, not_bool, Bool.not_false, Ret_ret, result_2]
noncomputable def U15 : Oracle := ext W14 32 itoI
theorem U15_ok : IOK Go.Proofs.Tryz.prog U15 := IOK.extL mixed tabOK otabOK W14_ok (g := 32) (fn := af32) rfl fun args av h => by
  unfold itoI at h
  split at h
  · rename_i a s
    obtain ⟨h1, h2⟩ := bif_run h
    rw [frc_eq, kv_eq] at h2
    cases hb : Nat.ble 9223372036854775808 (nv s) with
    | true =>
      rw [hb, cond_true] at h2
      obtain ⟨h3, h4⟩ := bif_run h2
      cases h4
      exact ⟨rfl, rfl, ito_big h1 (Nat.le_of_ble_eq_true h3)⟩
    | false =>
      rw [hb, cond_false] at h2
      cases h2
      refine ⟨rfl, rfl, ito_small h1 ?_⟩
      rcases Nat.lt_or_ge (nv s) 9223372036854775808 with g | g
      · exact g
      · rw [Nat.ble_eq_true_of_le g] at hb; exact nomatch hb
  · cases h
end Go.AM
