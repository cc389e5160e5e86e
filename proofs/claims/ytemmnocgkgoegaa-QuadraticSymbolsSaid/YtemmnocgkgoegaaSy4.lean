/- Kronecker's symbol, of the reference and of the program; Split: what the code computes. No condition. -/
import Derived.Test.YtemmnocgkgoegaaSy3
set_option maxRecDepth 100000
set_option linter.unusedSimpArgs false
set_option linter.unusedVariables false
namespace Go.AM
open Go
def faddW (k : Nat) (x : AV) : Option AV := match x with | .ptr i o => some (.ptr i (o + k)) | _ => none
theorem evalQ_faddw {k : Nat} {x : AOpd} {tm : List AV} {h : AHeap} : evalQ (.faddr k x) tm h = faddW k (ev tm x) := rfl
theorem faddW_ptr {k i o : Nat} : faddW k (.ptr i o) = some (.ptr i (o + k)) := rfl
theorem flat2_get : ∀ (L : List (Nat × Nat)) (i : Nat) (hi : i < L.length), (flat2 L)[i * 2]? = some (.int .i64 (L[i].1 : Int)) ∧ (flat2 L)[i * 2 + 1]? = some (.int .i64 (L[i].2 : Int))
  | (p, e) :: r, 0, _ => ⟨rfl, rfl⟩
  | (p, e) :: r, i + 1, h => by
    have ih := flat2_get r i (by simpa using h)
    have e1 : (i + 1) * 2 = i * 2 + 1 + 1 := by omega
    refine ⟨?_, ?_⟩
    · rw [e1]; exact ih.1
    · rw [e1]; exact ih.2
section
variable {K : List Fr} {Q : AX → St → Prop} {h : AHeap}
noncomputable def krI : ACode := match of37.body with | .seq _ (.seq _ (.seq _ (.seq _ (.seq _ (.seq (.seq _ (.block _ (.loop (.seq _ (.seq (.block _ (.seq _ (.block _ (.loop b)))) _))))) _))))) => b | c => c
noncomputable def krB : ACode := match of37.body with | .seq _ (.seq _ (.seq _ (.seq _ (.seq _ (.seq (.seq _ (.block _ (.loop b))) _))))) => b | c => c
theorem krI_loop {d : Int} {L : List (Nat × Nat)} {j i : Nat} (hc : cellsOf h j = some (flat2 L)) (hi : i < L.length) (hl : L.length ≤ 1000) (hp : QR.Prime L[i].1) (hp2 : L[i].1 ≤ 100000) (he : L[i].2 ≤ 200000) : ∀ (f k : Nat) (o : Int) (y5 : AV), k + f = L[i].2 → unit1 o →
    (∀ (o' : Int) (z1 z5 : AV), o' = o * QR.kron d (List.replicate f L[i].1) → unit1 o' → WX (lim otab.get N6) (.exit 2) K ⟨[.int .i64 d, z1, .int .i64 (i : Int), .slice j 0 L.length (.opn 2), .int .i64 o', z5], h⟩ Q) →
    WK (lim otab.get N6) (.loop krI) K ⟨[.int .i64 d, .int .i64 (k : Int), .int .i64 (i : Int), .slice j 0 L.length (.opn 2), .int .i64 o, y5], h⟩ Q := by
  intro f
  obtain ⟨g1, g2⟩ := flat2_get L i hi
  have l1 : loadV none (.ptr j (0 + i * 2 + 1)) h = some (.int .i64 (L[i].2 : Int)) := loadV_at hc (by rw [Nat.zero_add]; exact g2)
  have l0 : loadV none (.ptr j (0 + i * 2 + 0)) h = some (.int .i64 (L[i].1 : Int)) := loadV_at hc (by rw [Nat.zero_add, Nat.add_zero]; exact g1)
  generalize L[i].2 = e at *
  generalize L[i].1 = p at *
  induction f with
  | zero =>
    intro k o y5 hf ho hQ
    refine WK_loop' (by dsimp only [krI, of37]) ?_
    have e1 : ((k : Int) < (e : Int)) = False := eq_false (by omega)
    simp (disch := omega) only [RSd.down, iaddrV_ok, WOs_faddr, evalQ_faddw, faddW_ptr, l1, lss_int, e1, decide_false]
    exact hQ o _ _ (by show o = o * 1; omega) ho
  | succ f ih =>
    intro k o y5 hf ho hQ
    refine WK_loop' (by dsimp only [krI, of37]) ?_
    have e1 : ((k : Int) < (e : Int)) = True := eq_true (by omega)
    have hk : unit1 (QR.kp d p) := by rcases QR.kp_tri (d := d) hp with e | e | e <;> rw [e] <;> exact ⟨by decide, by decide⟩
    have ho2 := mul_unit ho hk
    have hp1 : 1 ≤ p := by have := hp.1; omega
    obtain ⟨u1, u2⟩ := ho2
    simp (disch := omega) only [RSd.down, iaddrV_ok, WOs_faddr, evalQ_faddw, faddW_ptr, l1, l0, lss_int, e1, decide_true, c_kp hp1 (show p ≤ 1000000 by omega), mul_i64, add_i64, show (k : Int) + 1 = ((k + 1 : Nat) : Int) from rfl]
    refine ih (k + 1) (o * QR.kp d p) _ (by omega) ⟨u1, u2⟩ ?_
    intro o' z1 z5 h1 h2
    refine hQ o' z1 z5 ?_ h2
    rw [h1, List.replicate_succ]
    show _ = o * (QR.kp d p * _)
    rw [Int.mul_assoc]
theorem krB_loop {d : Int} {L : List (Nat × Nat)} {j : Nat} (hc : cellsOf h j = some (flat2 L)) (hl : L.length ≤ 1000) (hok : ∀ x ∈ L, QR.Prime x.1 ∧ x.1 ≤ 100000 ∧ x.2 ≤ 200000) : ∀ (f i : Nat) (o : Int) (y1 y5 : AV), i + f = L.length → unit1 o →
    (∀ (o' : Int) (z1 z2 z5 : AV), o' = o * QR.kron d (exL (L.drop i)) → WX (lim otab.get N6) (.exit 0) K ⟨[.int .i64 d, z1, z2, .slice j 0 L.length (.opn 2), .int .i64 o', z5], h⟩ Q) →
    WK (lim otab.get N6) (.loop krB) K ⟨[.int .i64 d, y1, .int .i64 (i : Int), .slice j 0 L.length (.opn 2), .int .i64 o, y5], h⟩ Q := by
  intro f
  have ll : lenV 1 (.slice j 0 L.length (.opn 2)) h = some (.int .i64 (L.length : Int)) := rfl
  induction f with
  | zero =>
    intro i o y1 y5 hf ho hQ
    refine WK_loop' (by dsimp only [krB, of37]) ?_
    have e1 : ((i : Int) < (L.length : Int)) = False := eq_false (by omega)
    have e2 : L.drop i = [] := List.drop_eq_nil_of_le (by omega)
    rw [e2] at hQ
    simp only [RSd.down, ll, lss_int, e1, decide_false]
    exact hQ o _ _ _ (by show o = o * 1; omega)
  | succ f ih =>
    intro i o y1 y5 hf ho hQ
    refine WK_loop' (by dsimp only [krB, of37]) ?_
    have hi : i < L.length := by omega
    have e1 : ((i : Int) < (L.length : Int)) = True := eq_true (by omega)
    obtain ⟨p1, p2, p3⟩ := hok L[i] (List.getElem_mem hi)
    have e2 : L.drop i = (L[i].1, L[i].2) :: L.drop (i + 1) := List.drop_eq_getElem_cons hi
    rw [e2] at hQ
    simp only [RSd.down, ll, lss_int, e1, decide_true]
    refine krI_loop hc hi hl p1 p2 p3 L[i].2 0 o _ (by omega) ho ?_
    intro o' z1 z5 h1 h2
    simp (disch := omega) only [RSd.down, add_i64, show (i : Int) + 1 = ((i + 1 : Nat) : Int) from rfl]
    refine ih (i + 1) o' _ _ (by omega) h2 ?_
    intro o'' z1 z2 z5 h3
    refine hQ o'' z1 z2 z5 ?_
    rw [h3, h1]
    show _ = o * QR.kron d (List.replicate L[i].2 L[i].1 ++ exL (L.drop (i + 1)))
    rw [QR.kron_app, Int.mul_assoc]
end
theorem c_abs6 {h : AHeap} {n : Int} (h1 : -1000000 ≤ n) (h2 : n ≤ 1000000) : lim otab.get N6 (.fn 44) [.int .i64 n] h = some (.int .i64 (n.natAbs : Int), h) := lim_oracle (or_hit (spec := absS) (by unfold absS; first | exact if_pos ⟨by omega, by omega⟩ | rfl))
theorem exL_primes {n0 : Nat} {L : List (Nat × Nat)} (H : FP n0 1 L) : (∀ p ∈ exL L, QR.Prime p) ∧ QR.pr (exL L) = n0 := by
  refine ⟨fun p hp => ?_, by have := H.pr; omega⟩
  obtain ⟨x, hx, e⟩ := mem_exL hp
  rw [e]; exact (H.ok x hx).1
def krS : List AV → Option AV
  | [.int .i64 d, .int .i64 n] => if -100000 ≤ d ∧ d ≤ 100000 ∧ -100000 ≤ n ∧ n ≤ 100000 then some (.int .i64 (QR.K d n)) else none
  | _ => none
theorem rkr_run {d n : Int} (h1 : -100000 ≤ d) (h2 : d ≤ 100000) (h3 : -100000 ≤ n) (h4 : n ≤ 100000) : ∃ h', lim otab.get N6 (.fn 37) [.int .i64 d, .int .i64 n] .empty = some (.int .i64 (QR.K d n), h') := by
  refine run_of (fn := of37) rfl rfl ?_
  show WK _ _ [] ⟨[.int .i64 d, .int .i64 n, aundef, aundef, aundef, aundef], .empty⟩ _
  dsimp only [of37]
  by_cases h0 : n = 0
  · subst h0
    by_cases hd : d = 1
    · subst hd
      have hk : QR.K 1 0 = 1 := rfl
      simp only [RSd.down, eql_int, decide_true, Ret_ret, result_1, hk]
    · have hk : QR.K d 0 = 0 := by unfold QR.K; rw [if_pos rfl, if_neg hd]
      simp only [RSd.down, eql_int, decide_true, decide_false, hd, Ret_ret, result_1, hk]
  · obtain ⟨b, h', ef, L, H1, H2, H3⟩ := rfac_spec (I := N6) (fun _ _ => rfl) (n0 := n.natAbs) (by omega) (by omega) .empty
    obtain ⟨q1, q2⟩ := exL_primes H1
    have hK := QR.K_ok (d := d) h0 q1 q2
    have hsn : unit1 (QR.sn d n) := by rcases QR.sn_tri (d := d) (n := n) with e | e | e <;> rw [e] <;> exact ⟨by decide, by decide⟩
    have ca := fun h => c_abs6 (h := h) (n := n) (by omega) (by omega)
    have fin : ∀ (o : Int) (y1 y5 : AV) (K : List Fr), o = QR.sn d n → K = [.seq (.seq (.ops [⟨some 2, .mov (.tmp 4), none⟩]) (.ret))] → WK (lim otab.get N6) (.loop krB) (.block 0 :: K) ⟨[.int .i64 d, y1, .int .i64 0, b, .int .i64 o, y5], h'⟩ (Ret [.tmp 2] (.int .i64 (QR.K d n))) := by
      intro o y1 y5 K ho hK'
      subst hK'; subst ho
      rcases H2.val with ⟨e1, e2⟩ | ⟨j, e1, e2, e3, e4⟩
      · subst e1; subst e2
        refine WK_loop' (by dsimp only [krB, of37]) ?_
        have hK2 : QR.K d n = QR.sn d n := by rw [hK]; show QR.sn d n * 1 = _; omega
        have ll : lenV 1 .nils h' = some (.int .i64 0) := rfl
        simp only [RSd.down, ll, lss_int, show decide ((0 : Int) < 0) = false from rfl, Ret_ret, result_1, hK2]
      · subst e1
        refine krB_loop (cellsOf_get e4) H3 H1.ok L.length 0 (QR.sn d n) _ _ (by omega) hsn ?_
        intro o' z1 z2 z5 ho'
        rw [List.drop_zero, ← hK] at ho'
        simp only [RSd.down, Ret_ret, result_1, ho']
    by_cases hn : n < 0
    · by_cases hd : d < 0
      · have hs : QR.sn d n = -1 := by unfold QR.sn; rw [if_pos ⟨hn, hd⟩]
        simp only [RSd.down, eql_int, h0, decide_false, lss_int, hn, hd, decide_true, ca, ef]
        exact fin _ _ _ _ hs.symm rfl
      · have hs : QR.sn d n = 1 := by unfold QR.sn; rw [if_neg (by omega)]
        simp only [RSd.down, eql_int, h0, decide_false, lss_int, hn, hd, decide_true, ca, ef]
        exact fin _ _ _ _ hs.symm rfl
    · have hs : QR.sn d n = 1 := by unfold QR.sn; rw [if_neg (by omega)]
      simp only [RSd.down, eql_int, h0, decide_false, lss_int, hn, ca, ef]
      exact fin _ _ _ _ hs.symm rfl
noncomputable def N7 : Oracle := ext N6 37 krS
theorem N7_ok : IOK Go.Proofs.Try.prog N7 := IOK.extL mixed tabOK otabOK N6_ok (g := 37) (fn := af37) rfl fun args av h => by
  unfold krS at h
  split at h
  · split at h
    · rename_i hn; cases h; exact ⟨rfl, rfl, rkr_run hn.1 hn.2.1 hn.2.2.1 hn.2.2.2⟩
    · cases h
  · cases h
/-- the program's Kronecker: the symbol or an error -/
def kroV (d n : Int) : AV := if bd [d, n] ≠ 0 then .tup [.int .i64 0, .int .i64 (bd [d, n])] else if 1 < d % 4 then .tup [.int .i64 0, .int .i64 3] else .tup [.int .i64 (QR.K d n), .int .i64 0]
def kroS : List AV → Option AV
  | [.int .i64 d, .int .i64 n] => some (kroV d n)
  | _ => none
theorem bd2_cases (d n : Int) : (bd [d, n] = 0 ∧ -100000 ≤ d ∧ d ≤ 100000 ∧ -100000 ≤ n ∧ n ≤ 100000) ∨ bd [d, n] = 4 := by
  rcases lg_cases d with ⟨h1, h2, h3⟩ | ⟨h1, h2⟩ <;> rcases lg_cases n with ⟨g1, g2, g3⟩ | ⟨g1, g2⟩ <;> simp [bd, h1, g1] <;> omega
theorem kro_run (d n : Int) : ∃ h', lim otab.get N7 (.fn 31) [.int .i64 d, .int .i64 n] .empty = some (kroV d n, h') := by
  refine run_of (fn := of31) rfl rfl ?_
  show WK _ _ [] ⟨[.int .i64 d, .int .i64 n, aundef, aundef, aundef], .empty⟩ _
  dsimp only [of31]
  have cb : lim otab.get N7 (.fn 39) [.slice 0 0 2 (.exact 2)] (AHeap.empty.push (.cells [.int .i64 d, .int .i64 n] true)) = some (.int .i64 (bd [d, n]), AHeap.empty.push (.cells [.int .i64 d, .int .i64 n] true)) := bounded_2 (h := .empty) (fun _ _ => rfl)
  have cm : ∀ h, lim otab.get N7 (.fn 41) [.int .i64 d] h = some (.int .i64 (d % 4), h) := fun h => lim_oracle rfl
  simp only [RSd.down]
  rw [bslice2 rfl rfl rfl rfl]
  rcases bd2_cases d n with ⟨hb, b1, b2, b3, b4⟩ | hb
  · have cs : ∀ h, lim otab.get N7 (.fn 64) [.int .i64 d, .int .i64 n] h = some (.int .i64 (QR.K d n), h) := fun h => lim_oracle (or_hit (spec := symS) (if_pos ⟨b1, b2, b3, b4⟩))
    have f00 : ((0 : Int) = 0) = True := by simp
    by_cases h4 : 1 < d % 4
    · have hv : kroV d n = .tup [.int .i64 0, .int .i64 3] := by unfold kroV; rw [hb, if_neg (by decide), if_pos h4]
      simp only [RSd.down, cb, hb, eql_int, decide_true, cm, gtr_int, h4, neq_int, show decide ((3 : Int) ≠ 0) = true from rfl, Ret_ret, result_2, hv]
    · have hv : kroV d n = .tup [.int .i64 (QR.K d n), .int .i64 0] := by unfold kroV; rw [hb, if_neg (by decide), if_neg h4]
      simp only [RSd.down, cb, hb, eql_int, decide_true, cm, gtr_int, h4, decide_false, neq_int, show decide ((0 : Int) ≠ 0) = false from rfl, cs, Ret_ret, result_2, hv]
  · have hv : kroV d n = .tup [.int .i64 0, .int .i64 4] := by unfold kroV; rw [hb, if_pos (by decide)]
    simp only [RSd.down, cb, hb, eql_int, show decide ((4 : Int) = 0) = false from rfl, neq_int, show decide ((4 : Int) ≠ 0) = true from rfl, Ret_ret, result_2, hv]
noncomputable def N8 : Oracle := ext N7 31 kroS
theorem N8_ok : IOK Go.Proofs.Try.prog N8 := IOK.extL mixed tabOK otabOK N7_ok (g := 31) (fn := af31) rfl fun args av h => by
  unfold kroS at h
  split at h
  · rename_i d n
    cases h
    refine ⟨rfl, ?_, kro_run d n⟩
    unfold kroV; split
    · rfl
    · split <;> rfl
  · cases h
/-- Split: the symbol at a prime, or an error -/
noncomputable def splV (d n : Int) : AV := if bd [d, n] ≠ 0 then .tup [.int .i64 0, .int .i64 (bd [d, n])] else if ¬ fundP d then .tup [.int .i64 0, .int .i64 3] else if prE n ≠ 0 then .tup [.int .i64 0, .int .i64 (prE n)] else .tup [.int .i64 (QR.K d n), .int .i64 0]
noncomputable def splS : List AV → Option AV
  | [.int .i64 d, .int .i64 n] => some (splV d n)
  | _ => none
theorem spl_run (d n : Int) : ∃ h', lim otab.get N8 (.fn 35) [.int .i64 d, .int .i64 n] .empty = some (splV d n, h') := by
  refine run_of (fn := of35) rfl rfl ?_
  show WK _ _ [] ⟨[.int .i64 d, .int .i64 n, aundef, aundef, aundef], .empty⟩ _
  dsimp only [of35]
  have cb : lim otab.get N8 (.fn 39) [.slice 0 0 2 (.exact 2)] (AHeap.empty.push (.cells [.int .i64 d, .int .i64 n] true)) = some (.int .i64 (bd [d, n]), AHeap.empty.push (.cells [.int .i64 d, .int .i64 n] true)) := bounded_2 (h := .empty) (fun _ _ => rfl)
  simp only [RSd.down]
  rw [bslice2 rfl rfl rfl rfl]
  rcases bd2_cases d n with ⟨hb, b1, b2, b3, b4⟩ | hb
  · have cs : ∀ h, lim otab.get N8 (.fn 64) [.int .i64 d, .int .i64 n] h = some (.int .i64 (QR.K d n), h) := fun h => lim_oracle (or_hit (spec := symS) (if_pos ⟨b1, b2, b3, b4⟩))
    have cf : ∀ h, lim otab.get N8 (.fn 42) [.int .i64 d] h = some (.bool (decide (fundP d)), h) := fun h => lim_oracle (or_hit (spec := fundS) (if_pos ⟨b1, b2⟩))
    have cp : ∀ h, lim otab.get N8 (.fn 61) [.int .i64 n] h = some (.int .i64 (prE n), h) := fun h => lim_oracle (or_hit (spec := qprimeS) (if_pos ⟨b3, b4⟩))
    by_cases hf : fundP d
    · by_cases hp : prE n = 0
      · have hv : splV d n = .tup [.int .i64 (QR.K d n), .int .i64 0] := by unfold splV; rw [hb, if_neg (by decide), if_neg (fun h => h hf), if_neg (fun h => h hp)]
        simp only [RSd.down, cb, hb, eql_int, decide_true, cf, hf, not_bool, Bool.not_true, cp, hp, neq_int, show decide ((0 : Int) ≠ 0) = false from rfl, cs, Ret_ret, result_2, hv]
      · have hv : splV d n = .tup [.int .i64 0, .int .i64 (prE n)] := by unfold splV; rw [hb, if_neg (by decide), if_neg (fun h => h hf), if_pos hp]
        have hp' : (prE n ≠ 0) = True := eq_true hp
        simp only [RSd.down, cb, hb, eql_int, decide_true, cf, hf, not_bool, Bool.not_true, cp, neq_int, hp', cs, Ret_ret, result_2, hv]
    · have hv : splV d n = .tup [.int .i64 0, .int .i64 3] := by unfold splV; rw [hb, if_neg (by decide), if_pos hf]
      simp only [RSd.down, cb, hb, eql_int, decide_true, cf, hf, decide_false, not_bool, Bool.not_false, show decide ((3 : Int) = 0) = false from rfl, neq_int, show decide ((3 : Int) ≠ 0) = true from rfl, Ret_ret, result_2, hv]
  · have hv : splV d n = .tup [.int .i64 0, .int .i64 4] := by unfold splV; rw [hb, if_pos (by decide)]
    simp only [RSd.down, cb, hb, eql_int, show decide ((4 : Int) = 0) = false from rfl, neq_int, show decide ((4 : Int) ≠ 0) = true from rfl, Ret_ret, result_2, hv]
noncomputable def N9 : Oracle := ext N8 35 splS
theorem N9_ok : IOK Go.Proofs.Try.prog N9 := IOK.extL mixed tabOK otabOK N8_ok (g := 35) (fn := af35) rfl fun args av h => by
  unfold splS at h
  split at h
  · rename_i d n
    cases h
    refine ⟨rfl, ?_, spl_run d n⟩
    unfold splV; split
    · rfl
    · split
      · rfl
      · split <;> rfl
  · cases h
end Go.AM
