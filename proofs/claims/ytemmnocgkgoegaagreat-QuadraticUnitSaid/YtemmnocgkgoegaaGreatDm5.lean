/- The reference's long division as an answer. No condition. -/
import Derived.Test.YtemmnocgkgoegaaGreatDm4
import Derived.Test.YtemmnocgkgoegaaGreatUnm
set_option maxRecDepth 100000
set_option linter.unusedSimpArgs false
set_option linter.unusedVariables false
namespace Go.AM
open Go
/-- one element appended to a slice whose object ends with it -/
theorem appX {h : AHeap} {b : AV} {L : List AV} {v : AV} (hv : v.scalar = true) (hb : (L.length + 1) * 8 ≤ 140737488355328) (H : (b = .nils ∧ L = []) ∨ ∃ i, b = .slice i 0 L.length (.opn 1) ∧ L ≠ [] ∧ i < h.next ∧ h.get i = some (.cells L true)) :
    ∃ h', appV 1 8 b (.slice h.next 0 1 (.exact 1)) (h.push (.cells [v] true)) = some (.slice (h.next + 1) 0 (L.length + 1) (.opn 1), h') ∧ h'.next = h.next + 2 ∧ h'.get (h.next + 1) = some (.cells (L ++ [v]) true) ∧ ∀ j, j < h.next → (∀ i, b = .slice i 0 L.length (.opn 1) → j ≠ i) → h'.get j = h.get j := by
  have hsrc : srcOf 1 (.slice h.next 0 1 (.exact 1)) (h.push (.cells [v] true)) = some (1, [v]) := by
    simp only [srcOf, cellsOf_push, Nat.mul_one, cut_cons, cut_zero]
    simp [hv]
  rcases H with ⟨e1, e2⟩ | ⟨i, e1, e2, e4, e5⟩
  · subst e1; subst e2
    refine ⟨(h.push (.cells [v] true)).push (.cells [v] true), ?_, rfl, AHeap.get_push_same (h.push (.cells [v] true)) _, fun j hj _ => ?_⟩
    · unfold appV
      simp only [evalE, ev_lit, hsrc]
      simp only [List.length_nil] at hb
      rw [if_neg (by decide), if_pos (by omega)]
      rfl
    · rw [AHeap.get_push_lt _ _ (show j < (h.push (.cells [v] true)).next by rw [AHeap.next_push]; omega), AHeap.get_push_lt _ _ hj]
  · subst e1
    have hown : ownOf (h.push (.cells [v] true)) i = some L := by
      unfold ownOf; rw [AHeap.get_push_lt _ _ e4, e5]
    have hd : drops L 0 = L := by cases L <;> rfl
    refine ⟨((h.push (.cells [v] true)).del i).push (.cells (L ++ [v]) true), ?_, ?_, ?_, fun j hj hne => ?_⟩
    · unfold appV
      simp only [evalE, ev_lit, hsrc, hown]
      rw [if_pos ⟨trivial, by omega⟩, if_neg (by omega), if_pos (by omega), hd]
      rfl
    · rw [AHeap.next_push, AHeap.next_del, AHeap.next_push]
    · exact AHeap.get_push_same ((h.push (.cells [v] true)).del i) _
    · rw [AHeap.get_push_lt _ _ (show j < ((h.push (.cells [v] true)).del i).next by rw [AHeap.next_del, AHeap.next_push]; omega), AHeap.get_del_ne _ (hne i rfl), AHeap.get_push_lt _ _ hj]
noncomputable def rdmI : List AV → Option AV
  | [.str s, .str t] => bif kcan s && kcan t && (Bool.rec (motive := fun _ => Bool) true false (Nat.beq (kv t) 0)) then frc (kv s) fun a => frc (kv t) fun b => nbK (a / b) fun q => nbK (a % b) fun r => some (.tup [.str q, .str r]) else none
  | _ => none
theorem rdm_run {s t : List Nat} (hs : kcan s = true) (ht : kcan t = true) (h0 : nv t ≠ 0) : ∃ h', lim otab.get U15 (.fn 77) [.str s, .str t] .empty = some (.tup [.str (nb (nv s / nv t)), .str (nb (nv s % nv t))], h') := by
  obtain ⟨s1, s2⟩ := fitR_iff (kcan_ok hs).1
  obtain ⟨t1, t2⟩ := fitR_iff (kcan_ok ht).1
  have htn : ¬ t = [] := fun e => h0 (by rw [e]; rfl)
  refine run_of (fn := of77) rfl rfl ?_
  show WK _ _ [] ⟨[.str s, .str t, aundef, aundef, aundef, aundef, aundef, aundef, aundef, aundef, aundef], .empty⟩ _
  obtain ⟨b1, h1, m, e, H1, v1, w1, l1⟩ := limbsC_spec (I := U15) (fun _ _ => rfl) (fun _ _ => rfl) (kcan_ok hs).2 .empty
  obtain ⟨b2, h2, n, e', H2, v2, w2, l2⟩ := limbsC_spec (I := U15) (fun _ _ => rfl) (fun _ _ => rfl) (kcan_ok ht).2 h1
  have hY0 : 0 < nv t := by omega
  have hn1 : n ≠ 0 := fun c => by subst c; rw [Nat.pow_zero] at v2; omega
  have tY := w2 hn1
  obtain ⟨iy, rfl, y2, y3, y4, y5⟩ : ∃ iy, b2 = .slice iy 0 n (.opn 1) ∧ True ∧ h1.next ≤ iy ∧ iy < h2.next ∧ h2.get iy = some (.cells (tb .u64 n (dgt B32 (nv t))) true) := by
    rcases H2.val with ⟨c1, c2⟩ | ⟨i, c1, c2, c3, c4, c5⟩
    · exfalso
      have := congrArg List.length c2
      rw [tb_len] at this; exact hn1 this
    · rw [tb_len] at c1
      exact ⟨i, c1, trivial, c3, c4, c5⟩
  have HX : (b1 = .nils ∧ tb .u64 m (dgt B32 (nv s)) = []) ∨ ∃ i, b1 = .slice i 0 (tb .u64 m (dgt B32 (nv s))).length (.opn 1) ∧ tb .u64 m (dgt B32 (nv s)) ≠ [] ∧ i < h2.next ∧ h2.get i = some (.cells (tb .u64 m (dgt B32 (nv s))) true) := by
    rcases H1.val with c | ⟨i, c1, c2, c3, c4, c5⟩
    · exact .inl c
    · exact .inr ⟨i, c1, c2, Nat.lt_of_lt_of_le c4 H2.le, by rw [H2.same i c4]; exact c5⟩
  obtain ⟨h3, ea, a1, a2, a3⟩ := appX (h := h2) (v := .int .u64 0) rfl (by rw [tb_len]; omega) HX
  rw [tb_len] at ea
  have hdz : dgt B32 (nv s) m = 0 := dgt_zero v1
  have hrest : h3.get (h2.next + 1) = some (.cells (tb .u64 (m + 1) (dgt B32 (nv s))) true) := by
    rw [a2, tb_succ, hdz]; rfl
  have hy3 : h3.get iy = some (.cells (tb .u64 n (dgt B32 (nv t))) true) := by
    rw [a3 iy y4 (fun i hi => ?_)]
    · exact y5
    · rcases H1.val with ⟨c1, _⟩ | ⟨i', c1, _, _, c4, _⟩
      · rw [c1] at hi; exact nomatch hi
      · rw [c1] at hi
        injection hi with hi
        omega
  have hlen1 : lenV 1 b1 h3 = some (.int .i64 (m : Int)) := by
    rcases H1.val with ⟨c1, c2⟩ | ⟨i', c1, _⟩
    · subst c1
      have := congrArg List.length c2
      rw [tb_len] at this
      have : m = 0 := this
      subst this; rfl
    · rw [c1, tb_len]; rfl
  obtain ⟨qn, hqn⟩ : ∃ qn : Nat, qn = m + 1 - n := ⟨_, rfl⟩
  have hmax : (if (m : Int) - (n : Int) + 1 > 0 then (m : Int) - (n : Int) + 1 else 0) = (qn : Int) := by split <;> omega
  dsimp only [of77]
  simp only [RSd.down, eql_str, htn, decide_false, e, e', len_sl]
  rw [bslice1 (v := .int .u64 0) rfl rfl]
  simp (disch := omega) only [RSd.down, ea, hlen1, sub_i64, add_i64, max_int, hmax]
  rw [evalA_mk (n := qn) (k := .i64) rfl rfl (by omega), tb_repl]
  simp only [RSd.down, len_sl]
  have hA : nv s % (nv t * B32 ^ qn) = nv s := by
    refine Nat.mod_eq_of_lt ?_
    have c1 : B32 ^ m ≤ B32 ^ (n - 1) * B32 ^ qn := by rw [← Nat.pow_add]; exact Nat.pow_le_pow_right (by decide) (by omega)
    have c2 : B32 ^ (n - 1) * B32 ^ qn ≤ nv t * B32 ^ qn := Nat.mul_le_mul_right _ tY
    omega
  have q1 : (h3.push (.cells (tb .u64 qn fun _ => 0) true)).get (h2.next + 1) = some (.cells (tb .u64 (m + 1) (dgt B32 (nv s % (nv t * B32 ^ qn)))) true) := by
    rw [hA, AHeap.get_push_lt _ _ (by omega)]; exact hrest
  have q2 : (h3.push (.cells (tb .u64 qn fun _ => 0) true)).get h3.next = some (.cells (tb .u64 qn fun j => if j < qn then 0 else dgt B32 (nv s / nv t) j) true) := by
    rw [AHeap.get_push_same, tb_congr (g := fun j => if j < qn then 0 else dgt B32 (nv s / nv t) j) fun j hj => by rw [if_pos hj]]
  have q3 : (h3.push (.cells (tb .u64 qn fun _ => 0) true)).get iy = some (.cells (tb .u64 n (dgt B32 (nv t))) true) := by
    rw [AHeap.get_push_lt _ _ (by omega)]; exact hy3
  simp (disch := omega) only [sub_i64, RSd.down]
  by_cases hbig : qn + n ≤ m + 1
  · refine dvO_loop (I := U15) (fun _ _ => rfl) (fun _ _ => rfl) (A := nv s) (h0 := h3.push (.cells (tb .u64 qn fun _ => 0) true)) q3 (by omega) (by omega) (by omega) (by omega) hbig (Nat.le_refl _) (by omega) v2 tY qn _ _ _ _ _ _ _ (Nat.le_refl _) q1 q2 ⟨rfl, fun _ _ _ => rfl⟩ ?_
    intro h' z0 z1 z3 z4 z5 z6 z9 hG hr hq
    have hnx : h'.next = h2.next + 3 := by rw [hG.1, AHeap.next_push, a1]
    have hqlt : nv s / nv t < B32 ^ qn := by
      refine Nat.div_lt_of_lt_mul ?_
      have c1 : B32 ^ m ≤ B32 ^ (n - 1) * B32 ^ qn := by rw [← Nat.pow_add]; exact Nat.pow_le_pow_right (by decide) (by omega)
      have c2 : B32 ^ (n - 1) * B32 ^ qn ≤ nv t * B32 ^ qn := Nat.mul_le_mul_right _ tY
      omega
    obtain ⟨h4, e4, g4⟩ := rpack_at (I := U15) (fun _ _ => rfl) (h := h') (cap := .exact qn) (V := nv s / nv t) (by omega) hq (Nat.le_refl _) (fun _ _ => rfl) hqlt (by omega)
    have hmlt : nv s % nv t < B32 ^ (m + 1) := by
      have c1 := Nat.mod_lt (nv s) hY0
      have c2 : B32 ^ n ≤ B32 ^ (m + 1) := Nat.pow_le_pow_right (by decide) (by omega)
      omega
    have hr4 : h4.get (h2.next + 1) = some (.cells (tb .u64 (m + 1) (dgt B32 (nv s % nv t))) true) := by rw [g4.same _ (by omega)]; exact hr
    obtain ⟨h5, e5, _⟩ := rpack_at (I := U15) (fun _ _ => rfl) (h := h4) (cap := .opn 1) (V := nv s % nv t) (by have := g4.le; omega) hr4 (Nat.le_refl _) (fun _ _ => rfl) hmlt (by omega)
    simp only [RSd.down, e4, e5, Ret_ret, result_2]
  · have hq0 : qn = 0 := by omega
    have hlt : nv s < nv t := by
      have c2 : B32 ^ m ≤ B32 ^ (n - 1) := Nat.pow_le_pow_right (by decide) (by omega)
      omega
    have hge : decide ((0 : Int) ≤ (qn : Int) - 1) = false := decide_eq_false (by omega)
    have hd0 : nv s / nv t = 0 := Nat.div_eq_of_lt hlt
    have hm0 : nv s % nv t = nv s := Nat.mod_eq_of_lt hlt
    have hnx : (h3.push (.cells (tb .u64 qn fun _ => 0) true)).next = h2.next + 3 := by rw [AHeap.next_push, a1]
    have q2' : (h3.push (.cells (tb .u64 qn fun _ => 0) true)).get h3.next = some (.cells (tb .u64 qn fun _ => 0) true) := AHeap.get_push_same _ _
    obtain ⟨h4, e4, g4⟩ := rpack_at (I := U15) (fun _ _ => rfl) (h := h3.push (.cells (tb .u64 qn fun _ => 0) true)) (cap := .exact qn) (n := qn) (V := nv s / nv t) (by omega) q2' (Nat.le_refl _) (fun j hj => by omega) (by rw [hd0]; exact Nat.pow_pos (by decide)) (by omega)
    have hr4 : h4.get (h2.next + 1) = some (.cells (tb .u64 (m + 1) (dgt B32 (nv s % nv t))) true) := by
      rw [g4.same _ (by omega), AHeap.get_push_lt _ _ (by omega), hm0]; exact hrest
    have hmlt : nv s % nv t < B32 ^ (m + 1) := by
      rw [hm0]
      exact Nat.lt_of_lt_of_le v1 (Nat.pow_le_pow_right (by decide) (by omega))
    obtain ⟨h5, e5, _⟩ := rpack_at (I := U15) (fun _ _ => rfl) (h := h4) (cap := .opn 1) (V := nv s % nv t) (by have := g4.le; omega) hr4 (Nat.le_refl _) (fun _ _ => rfl) hmlt (by omega)
    refine WK_loop ?_
    simp only [RSd.down, geq_int, hge, e4, e5, Ret_ret, result_2]
noncomputable def D1 : Oracle := ext U15 77 rdmI
theorem D1_ok : IOK Go.Proofs.Tryz.prog D1 := IOK.extL mixed tabOK otabOK U15_ok (g := 77) (fn := af77) rfl fun args av h => by
  unfold rdmI at h
  split at h
  · obtain ⟨h1, h2⟩ := bif_run h
    rw [Bool.and_eq_true, Bool.and_eq_true] at h1
    rw [frc_eq, frc_eq, nbK_eq, nbK_eq, kv_eq, kv_eq] at h2
    cases h2
    refine ⟨rfl, rfl, rdm_run h1.1.1 h1.1.2 fun e => ?_⟩
    have := h1.2
    rw [kv_eq, e] at this
    exact nomatch this
  · cases h
end Go.AM
