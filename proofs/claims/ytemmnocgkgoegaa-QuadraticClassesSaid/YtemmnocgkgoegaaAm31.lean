/- Symbolic runs: small lemmas in daily use. No condition. -/
import Derived.Test.YtemmnocgkgoegaaAm29
import Derived.Test.YtemmnocgkgoegaaAm30
namespace Go.AM
open Go
theorem WK_loop' {C : CallT} {K : List Fr} {Q : AX → St → Prop} {b b' : ACode} {s : St} (e : b = b') (h : WK C b' (.loop b :: K) s Q) : WK C (.loop b) K s Q := by
  subst e; exact WK_loop h
/-- a way out with an answer -/
def Ret (rs : List ARes) (av : AV) (x : AX) (s : St) : Prop := (∀ i, x ≠ .exit i) ∧ result rs s.tm s.h = some av
theorem Ret_ret {rs : List ARes} {av : AV} {s : St} : Ret rs av .ret s ↔ result rs s.tm s.h = some av := ⟨fun h => h.2, fun h => ⟨(fun i hi => by cases hi), h⟩⟩
theorem Ret_normal {rs : List ARes} {av : AV} {s : St} : Ret rs av .normal s ↔ result rs s.tm s.h = some av := ⟨fun h => h.2, fun h => ⟨(fun i hi => by cases hi), h⟩⟩
theorem result_1 {a : Nat} {tm : List AV} {h : AHeap} : result [.tmp a] tm h = some (nth tm a) := rfl
theorem result_2 {a b : Nat} {tm : List AV} {h : AHeap} : result [.tmp a, .tmp b] tm h = some (.tup [nth tm a, nth tm b]) := rfl
theorem result_3 {a b c : Nat} {tm : List AV} {h : AHeap} : result [.tmp a, .tmp b, .tmp c] tm h = some (.tup [nth tm a, nth tm b, nth tm c]) := rfl
section
variable {T : FnTab} {I : Oracle}
theorem run_of {f : Nat} {fn : AFn} (hT : T f = some fn) {a : List AV} {h : AHeap} {av : AV} (hI : I f a h = none)
    (hw : WK (lim T I) fn.body [] ⟨a ++ List.replicate (fn.nt - a.length) aundef, h⟩ (Ret fn.res av)) : ∃ h', lim T I (.fn f) a h = some (av, h') := by
  have := lim_walk_ex (P := fun v _ => v = av) hT hI (hw.mono fun x s hq => ⟨hq.1, av, hq.2, rfl⟩)
  obtain ⟨v, h', e, rfl⟩ := this
  exact ⟨h', e⟩
theorem or_hit {spec : List AV → Option AV} {args : List AV} {av : AV} {h : AHeap} {rest : Option (AV × AHeap)} (hs : spec args = some av) : (match spec args with | some av => some (av, h) | none => rest) = some (av, h) := by rw [hs]
end
theorem IOK.extL {P : Program} {T T' : FnTab} {I : Oracle} (hm : P.follows .mixedOrders = true) (hT : TabOK P T) (hO : TOpt T T') (hI : IOK P I) {g : Nat} {fn : AFn} (hg : T g = some fn) {spec : List AV → Option AV}
    (hsp : ∀ args av, spec args = some av → AV.plains args = true ∧ AV.plain av = true ∧ ∃ h', lim T' I (.fn g) args .empty = some (av, h')) : IOK P (ext I g spec) := by
  refine IOK.extend hm hT hI hg fun args av h => ?_
  obtain ⟨h1, h2, h', h3⟩ := hsp args av h
  obtain ⟨n, h3⟩ := lim_iff.1 h3
  exact ⟨h1, h2, n, h', callF_opt hO n _ _ _ _ h3⟩
theorem lim_opt {T T' : FnTab} {I : Oracle} (hO : TOpt T T') {f : Nat} {a : List AV} {h : AHeap} {r : AV × AHeap} (e : lim T' I (.fn f) a h = some r) : ∃ n, callF T I n (.fn f) a h = some r := by
  obtain ⟨n, e⟩ := lim_iff.1 e
  exact ⟨n, callF_opt hO n _ _ _ _ e⟩

theorem shr_u64 {e : EqK} (x k : Nat) {q : IntKind} (hk : k ≤ 64) : bin .shr e (.int .u64 (x : Int)) (.int q (k : Int)) = some (.int .u64 ((x / 2 ^ k : Nat) : Int)) := by
  show ishift false .u64 x k = _
  unfold ishift
  have h0 : ¬ ((k : Int) < 0) := by omega
  have hm : min k (kbits .u64) = k := by show min k 64 = k; omega
  rw [if_neg h0, if_neg (by decide), Int.toNat_natCast, hm]
  have : (x : Int).fdiv ((2 ^ k : Nat) : Int) = ((x / 2 ^ k : Nat) : Int) := by
    rw [Int.fdiv_eq_ediv_of_nonneg _ (Int.natCast_nonneg _)]; rfl
  rw [this]
theorem toIntV_u8 {k : IntKind} (n : Nat) : toIntV .u8 (.int k (n : Int)) = some (.int .u8 ((n % 256 : Nat) : Int)) := rfl
theorem iaddrV_ok {sz j o len : Nat} {c : ACap} {k : IntKind} {i : Nat} (h : i < len) : iaddrV sz (.slice j o len c) (.int k (i : Int)) = some (.ptr j (o + i * sz)) := by
  show (if 0 ≤ (i : Int) ∧ (i : Int) < len then some (AV.ptr j (o + (i : Int).toNat * sz)) else none) = _
  rw [if_pos (by omega), Int.toNat_natCast]
theorem loadV_at {h : AHeap} {i o : Nat} {c : List AV} {x : AV} (hc : cellsOf h i = some c) (hx : c[o]? = some x) : loadV none (.ptr i o) h = some x := by
  show (match cellsOf h i with | some c => fit none o c | none => none) = _
  rw [hc]; exact fit_at hx
theorem bslice1 {tm : List AV} {h : AHeap} {z : AV} {x : AOpd} {v : AV} (hx : ev tm x = v) (hv : v.scalar = true) : evalA (.bslice 1 1 [z] [(0, x)]) tm h = some (.cells [v] true, .slice h.next 0 1 (.exact 1)) := by
  have hc : v.cells = [v] := by cases v <;> simp_all [AV.cells, AV.scalar]
  simp only [evalA, fillsS, hx, hc]
  rfl
/-- the low bits of a number -/
theorem and_i64 {e : EqK} {n : Int} (m : Nat) (k : Nat) (hm : m = 2 ^ k - 1) (hk : k ≤ 62) : bin .and e (.int .i64 n) (.int .i64 (m : Int)) = some (.int .i64 (n % ((2 ^ k : Nat) : Int))) := by
  have hp : 2 ^ k ≤ 2 ^ 62 := Nat.pow_le_pow_right (by decide) hk
  have hp0 : 0 < 2 ^ k := Nat.two_pow_pos k
  have hdvd : ((2 ^ k : Nat) : Int) ∣ 18446744073709551616 := by
    have : (18446744073709551616 : Int) = ((2 ^ 64 : Nat) : Int) := by decide
    rw [this]
    exact Int.natCast_dvd_natCast.2 (Nat.pow_dvd_pow 2 (by omega))
  have h1 : kmod .i64 (m : Int) = m := by
    show (((m : Nat) : Int) % 18446744073709551616).toNat = m
    omega
  show some (AV.int .i64 (awrap .i64 ((Nat.land (kmod .i64 n) (kmod .i64 (m : Int)) : Nat) : Int))) = _
  rw [h1, hm]
  have h2 : Nat.land (kmod .i64 n) (2 ^ k - 1) = kmod .i64 n % 2 ^ k := Nat.and_two_pow_sub_one_eq_mod _ _
  rw [h2]
  have h3 : ((kmod .i64 n % 2 ^ k : Nat) : Int) = n % ((2 ^ k : Nat) : Int) := by
    show ((((n % 18446744073709551616).toNat % 2 ^ k : Nat)) : Int) = _
    rw [Int.natCast_emod, Int.toNat_of_nonneg (Int.emod_nonneg _ (by decide)), Int.emod_emod_of_dvd _ hdvd]
  rw [h3]
  have h4 : 0 ≤ n % ((2 ^ k : Nat) : Int) := Int.emod_nonneg _ (by omega)
  have h5 : n % ((2 ^ k : Nat) : Int) < ((2 ^ k : Nat) : Int) := Int.emod_lt_of_pos _ (by omega)
  rw [awrap_id (by omega) (by omega)]
/-- the rules of symbolic runs, in one -/
def RSd := PLift.up (And.intro @WK_skip (And.intro @WK_seq (And.intro @WX_seq (And.intro @WX_seq_exit (And.intro @WX_seq_ret (And.intro @WK_block (And.intro @WX_block (And.intro @WX_block_ret (And.intro @WX_block_eq (And.intro @WK_exit (And.intro @WK_ret (And.intro @WK_scope (And.intro @WK_cond (And.intro @WK_ops (And.intro @WK_draw (And.intro @WX_loop (And.intro @WX_loop_exit (And.intro @WX_loop_ret (And.intro @WX_nil (And.intro @WB_true (And.intro @WB_false (And.intro @WOs_nil (And.intro @WDs_nil (And.intro @WV_some (And.intro @WA_some (And.intro @WE_some (And.intro @WDV_zero (And.intro @WDE_none (And.intro @putD_some (And.intro @putD_none (And.intro @WOs_g (And.intro @WG_tt (And.intro @WG_ff (And.intro @WG_tf (And.intro @WG_ft (And.intro @WG_un (And.intro @WOs_mov (And.intro @WOs_bin (And.intro @WOs_un (And.intro @WOs_pick (And.intro @WOs_toInt (And.intro @WOs_len (And.intro @WOs_load (And.intro @WOs_iaddr (And.intro @WOs_indexS (And.intro @WOs_extr (And.intro @WOs_field (And.intro @WOs_toStr (And.intro @WOs_call (And.intro @WOs_store (And.intro @WOs_append (And.intro @WOs_slice (And.intro @WOs_mx (And.intro @WOs_mn (And.intro @WOs_build (And.intro @WOs_bslice (And.intro @WOs_mkslice (And.intro @WOs_alloc (And.intro @WOs_lenA (And.intro @WDs_mov (And.intro @WDs_bin (And.intro @WDs_call (And.intro @evalQ_mov (And.intro @evalQ_bin (And.intro @evalQ_un (And.intro @evalQ_pick (And.intro @evalQ_toInt (And.intro @evalQ_len (And.intro @evalQ_load (And.intro @evalQ_iaddr (And.intro @evalQ_indexS (And.intro @evalQ_extr (And.intro @evalQ_field (And.intro @evalQ_mx (And.intro @evalQ_mn (And.intro @evalQ_lenA (And.intro @evalE_fn (And.intro @evalE_append (And.intro @evs_cons (And.intro @evs_nil (And.intro @ev_tmp (And.intro @ev_lit (And.intro @nth_zero (And.intro @nth_succ (And.intro @put_zero (And.intro @put_succ (And.intro @pickV_tt (And.intro @pickV_ff (And.intro @extrV_0 (And.intro @extrV_1 @extrV_2))))))))))))))))))))))))))))))))))))))))))))))))))))))))))))))))))))))))))))))))))))))))))
end Go.AM
