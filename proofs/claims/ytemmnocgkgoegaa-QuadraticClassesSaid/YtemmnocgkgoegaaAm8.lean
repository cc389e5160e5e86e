/- The operations that turn no heap, each of them. No condition. -/
import Derived.Test.YtemmnocgkgoegaaAm7
namespace Go.AM
open Go

section
variable {P : Program} {ρ : Rho} {h : AHeap} {B : Nat} {w : World} {tm : List AV} {a : Act}

theorem arith_some {f : Int → Int → Int} {x y av : AV} (hb : arith f x y = some av) : ∃ k m n, x = .int k m ∧ y = .int k n ∧ av = .int k (k.wrap (f m n)) := by
  unfold arith at hb
  split at hb
  · rename_i k m k' n
    rw [keq_eq] at hb
    by_cases e : k = k'
    · subst e; simp only [decide_true, cond_true, Option.some.injEq] at hb; subst hb
      exact ⟨k, m, n, rfl, rfl, by rw [awrap_eq]⟩
    · simp [e] at hb
  · cases hb
theorem icmp_some {f : Int → Int → Bool} {x y av : AV} (hb : icmp f x y = some av) : ∃ k m n, x = .int k m ∧ y = .int k n ∧ av = .bool (f m n) := by
  unfold icmp at hb
  split at hb
  · rename_i k m k' n
    rw [keq_eq] at hb
    by_cases e : k = k'
    · subst e; simp only [decide_true, cond_true, Option.some.injEq] at hb; subst hb
      exact ⟨k, m, n, rfl, rfl, rfl⟩
    · simp [e] at hb
  · cases hb
theorem ibits2_some {op : BinOp} {x y av : AV} (hb : ibits2 op x y = some av) : ∃ k m n, x = .int k m ∧ y = .int k n ∧ ibits op k m n = some av := by
  unfold ibits2 at hb
  split at hb
  · rename_i k m k' n
    rw [keq_eq] at hb
    by_cases e : k = k'
    · subst e; simp only [decide_true, cond_true] at hb
      exact ⟨k, m, n, rfl, rfl, hb⟩
    · simp [e] at hb
  · cases hb
theorem eql_run {t : TypeId} {vx vy : Value} {r : Bool} (he : (Op.equal t vx vy).run P w = .ok r w) : (do pure (Value.bool (← Op.equal t vx vy)) : Sem Value).run P w = .ok (.bool r) w := by
  simp only [Sem.run_bind, he, Result.andThen_ok, Sem.run_pure]
theorem neq_run {t : TypeId} {vx vy : Value} {r : Bool} (he : (Op.equal t vx vy).run P w = .ok r w) : (do pure (Value.bool (!(← Op.equal t vx vy))) : Sem Value).run P w = .ok (.bool (!r)) w := by
  simp only [Sem.run_bind, he, Result.andThen_ok, Sem.run_pure]

theorem eqGuard_plain {op : BinOp} {t : TypeId} {ox oy : Operand} {vx vy : Value} (h1 : ¬ (∃ x y, vx = .agg x ∧ vy = .agg y)) (h2 : ¬ (vx = .nilIface ∧ vy = .nilIface)) :
    (eqGuard op t ox oy vx vy).run P w = .ok () w := by
  cases op <;> first
    | (simp [eqGuard]; done)
    | (cases vx <;> first
        | (simp [eqGuard]; done)
        | (cases vy <;> first
            | (simp [eqGuard]; done)
            | exact absurd ⟨_, _, rfl, rfl⟩ h1
            | exact absurd ⟨rfl, rfl⟩ h2))

theorem not_ilt (a b : Int) : (!ilt b a) = decide (a ≤ b) := by
  rw [ilt_eq]
  by_cases h : a ≤ b
  · rw [decide_eq_true h, decide_eq_false (by omega)]; rfl
  · rw [decide_eq_false h, decide_eq_true (by omega)]; rfl

theorem eqi_ptr {t e : TypeId} (hu : P.underlying t = some (.pointer e)) (D : Nat) : (∀ b, (Op.equalIn (D + 1) t (.pointer none) (.pointer b)).run P w = .ok b.isNone w) ∧
    (∀ b, (Op.equalIn (D + 1) t (.pointer (some b)) (.pointer none)).run P w = .ok false w) :=
  ⟨fun b => by rw [Op.equalIn]; simp only [Sem.run_bind, run_underlying hu, Result.andThen_ok, Sem.run_pure], fun b => by rw [Op.equalIn]; simp only [Sem.run_bind, run_underlying hu, Result.andThen_ok, Sem.run_pure]⟩
theorem eqi_slice {t e : TypeId} (hu : P.underlying t = some (.slice e)) (D : Nat) : (∀ b n c, (Op.equalIn (D + 1) t (.slice none 0 0) (.slice b n c)).run P w = .ok b.isNone w) ∧
    (∀ b n c, (Op.equalIn (D + 1) t (.slice (some b) n c) (.slice none 0 0)).run P w = .ok false w) :=
  ⟨fun b n c => by rw [Op.equalIn]; simp only [Sem.run_bind, run_underlying hu, Result.andThen_ok, Sem.run_pure], fun b n c => by rw [Op.equalIn]; simp only [Sem.run_bind, run_underlying hu, Result.andThen_ok, Sem.run_pure]⟩
theorem eqi_map {t e f : TypeId} (hu : P.underlying t = some (.map e f)) (D : Nat) : (∀ b, (Op.equalIn (D + 1) t (.map none) (.map b)).run P w = .ok b.isNone w) ∧
    (∀ b, (Op.equalIn (D + 1) t (.map (some b)) (.map none)).run P w = .ok false w) :=
  ⟨fun b => by rw [Op.equalIn]; simp only [Sem.run_bind, run_underlying hu, Result.andThen_ok, Sem.run_pure], fun b => by rw [Op.equalIn]; simp only [Sem.run_bind, run_underlying hu, Result.andThen_ok, Sem.run_pure]⟩
theorem eqi_func {t : TypeId} {ps rs : Array TypeId} {v : Bool} (hu : P.underlying t = some (.func ps rs v)) (D : Nat) : ((Op.equalIn (D + 1) t .nilFunc .nilFunc).run P w = .ok true w) ∧
    (∀ f x y, (Op.equalIn (D + 1) t .nilFunc (.func f x y)).run P w = .ok false w) ∧ (∀ f x y, (Op.equalIn (D + 1) t (.func f x y) .nilFunc).run P w = .ok false w) :=
  ⟨by rw [Op.equalIn]; simp only [Sem.run_bind, run_underlying hu, Result.andThen_ok, Sem.run_pure], fun f x y => by rw [Op.equalIn]; simp only [Sem.run_bind, run_underlying hu, Result.andThen_ok, Sem.run_pure],
   fun f x y => by rw [Op.equalIn]; simp only [Sem.run_bind, run_underlying hu, Result.andThen_ok, Sem.run_pure]⟩

/-- a value that is no number, string, struct, nil interface -/
def RefV (vx : Value) : Prop := (∃ b, vx = .pointer b) ∨ (∃ b n c, vx = .slice b n c) ∨ (∃ b, vx = .map b) ∨ vx = .nilFunc ∨ (∃ f a b, vx = .func f a b)

theorem eqRef_run (D : Nat) {k : Nat} {t : TypeId} {x y : AV} {vx vy : Value} {r : Bool} (hk : eqK P t = .ref k) (hx : VR ρ x vx) (hy : VR ρ y vy) (hr : eqRef k x y = some r) :
    (Op.equalIn (D + 1) t vx vy).run P w = .ok r w ∧ RefV vx := by
  have hkind : ∀ j, Nat.beq k j = true → k = j := fun j e => Nat.eq_of_beq_eq_true e
  unfold eqK at hk
  cases hu : P.underlying t with
  | none => rw [hu] at hk; cases hk
  | some d =>
    rw [hu] at hk
    have hfl : ∀ k, eqK.flatE P t = .ref k → False := by
      intro k e; unfold eqK.flatE at e
      split at e
      · split at e <;> cases e
      · cases e
    unfold eqRef at hr
    split at hr
    case h_13 => cases hr
    all_goals (cases hb : Nat.beq k _ <;> rw [hb] at hr <;> simp only [cond_true, cond_false, reduceCtorEq, Option.some.injEq] at hr) <;>
      (obtain rfl := hkind _ hb) <;> subst hr <;>
      (cases d <;> first | (exact absurd (hfl _ hk) id) | (cases hk; done) | skip) <;>
      cases hx <;> cases hy <;> first
        | exact ⟨(eqi_ptr hu D).1 _, .inl ⟨_, rfl⟩⟩
        | exact ⟨(eqi_ptr hu D).2 _, .inl ⟨_, rfl⟩⟩
        | exact ⟨(eqi_slice hu D).1 _ _ _, .inr (.inl ⟨_, _, _, rfl⟩)⟩
        | exact ⟨(eqi_slice hu D).2 _ _ _, .inr (.inl ⟨_, _, _, rfl⟩)⟩
        | exact ⟨(eqi_map hu D).1 _, .inr (.inr (.inl ⟨_, rfl⟩))⟩
        | exact ⟨(eqi_map hu D).2 _, .inr (.inr (.inl ⟨_, rfl⟩))⟩
        | exact ⟨(eqi_func hu D).1, .inr (.inr (.inr (.inl rfl)))⟩
        | exact ⟨(eqi_func hu D).2.1 _ _ _, .inr (.inr (.inr (.inl rfl)))⟩
        | exact ⟨(eqi_func hu D).2.2 _ _ _, .inr (.inr (.inr (.inr ⟨_, _, _, rfl⟩)))⟩

theorem RefV.plain {vx : Value} (h : RefV vx) : (∀ q n, vx ≠ .int q n) ∧ (∀ s, vx ≠ .string s) ∧ (∀ s n, vx ≠ .float s n) ∧ (∀ s n m, vx ≠ .complex s n m) ∧ (∀ c, vx ≠ .agg c) ∧ vx ≠ .nilIface := by
  rcases h with ⟨b, rfl⟩ | ⟨b, n, c, rfl⟩ | ⟨b, rfl⟩ | rfl | ⟨f, a, b, rfl⟩ <;>
    exact ⟨by (intro _ _ e; cases e), by (intro _ e; cases e), by (intro _ _ e; cases e), by (intro _ _ _ e; cases e), by (intro _ e; cases e), by (intro e; cases e)⟩

theorem binOp_eql_of {t : TypeId} {vx vy : Value} {r : Bool} (he' : (Op.equalIn (9999 + 1) t vx vy).run P w = .ok r w) (h1 : ∀ q n, vx ≠ .int q n) (h2 : ∀ s, vx ≠ .string s) (h3 : ∀ s n, vx ≠ .float s n) (h4 : ∀ s n m, vx ≠ .complex s n m) :
    (binOp .eql t vx vy).run P w = .ok (.bool r) w ∧ (binOp .neq t vx vy).run P w = .ok (.bool (!r)) w := by
  have he : (Op.equal t vx vy).run P w = .ok r w := he'
  cases vx <;> first
    | exact absurd rfl (h1 _ _)
    | exact absurd rfl (h2 _)
    | exact absurd rfl (h3 _ _)
    | exact absurd rfl (h4 _ _ _)
    | exact ⟨eql_run he, neq_run he⟩

theorem eqv_run {e : EqK} {t : TypeId} {x y : AV} {vx vy : Value} {r : Bool} {ox oy : Operand} {op : BinOp} (he : eqK P t = e) (hx : VR ρ x vx) (hy : VR ρ y vy) (hr : eqv e x y = some r) :
    (eqGuard op t ox oy vx vy).run P w = .ok () w ∧ (binOp .eql t vx vy).run P w = .ok (.bool r) w ∧ (binOp .neq t vx vy).run P w = .ok (.bool (!r)) w := by
  cases e with
  | no => simp [eqv] at hr
  | bool =>
    cases x <;> simp only [eqv, reduceCtorEq] at hr
    cases y <;> simp only [reduceCtorEq, Option.some.injEq] at hr
    subst hr
    cases hx; cases hy
    have hu : P.underlying t = some .bool := by
      unfold eqK at he
      split at he <;> first | assumption | (cases he; done) | skip
      all_goals (unfold eqK.flatE at he; split at he <;> first | (split at he <;> cases he) | cases he)
    refine ⟨eqGuard_plain (by rintro ⟨_, _, e, _⟩; cases e) (by rintro ⟨e, _⟩; cases e), ?_⟩
    refine binOp_eql_of ?_ (by intro _ _ e; cases e) (by intro _ e; cases e) (by intro _ _ e; cases e) (by intro _ _ _ e; cases e)
    exact run_equalIn_bool' w 9999 t _ _ hu
  | flat ks =>
    cases x <;> simp only [eqv, reduceCtorEq] at hr
    cases y <;> simp only [reduceCtorEq] at hr
    split at hr
    · rename_i hlen
      cases hx with | agg hx => cases hy with | agg hy =>
      have hE : eqK.flatE P t = .flat ks ∧ aggT P t = some true := by
        unfold eqK at he; unfold aggT
        split at he <;> first | (cases he; done) | (rename_i hu; rw [hu]; exact ⟨he, rfl⟩)
      obtain ⟨hE, hag⟩ := hE
      unfold eqK.flatE at hE
      cases hf : flatT P 5 t with
      | none => rw [hf] at hE; cases hE
      | some ks' =>
        rw [hf] at hE
        simp only at hE
        split at hE
        · rename_i hp
          cases hE
          refine ⟨run_eqGuard_agg w op t ox oy _ _ hp.2, ?_⟩
          refine binOp_eql_of ?_ (by intro _ _ e; cases e) (by intro _ e; cases e) (by intro _ _ e; cases e) (by intro _ _ _ e; cases e)
          have := flat_run 5 t ks (9999 + 1) _ _ _ _ r w hf hp.1 (by omega) hx hy hlen.1 hlen.2 hr
          simpa only [valOf, hag, if_true] using this
        · cases hE
    · cases hr
  | ref k =>
    obtain ⟨h1, h2⟩ := eqRef_run (w := w) 9999 he hx hy (by simpa [eqv] using hr)
    obtain ⟨p1, p2, p3, p4, p5, p6⟩ := h2.plain
    exact ⟨eqGuard_plain (by rintro ⟨_, _, e, _⟩; exact p5 _ e) (fun e => p6 e.1), binOp_eql_of h1 p1 p2 p3 p4⟩

theorem bin_run {op : BinOp} {t : TypeId} {x y av : AV} {vx vy : Value} {ox oy : Operand} (hx : VR ρ x vx) (hy : VR ρ y vy) (hb : bin op (eqK P t) x y = some av) :
    ∃ v, (eqGuard op t ox oy vx vy).run P w = .ok () w ∧ (binOp op t vx vy).run P w = .ok v w ∧ VR ρ av v := by
  have hii : ∀ {k k' : IntKind} {n n' : Int}, (eqGuard op t ox oy (.int k n) (.int k' n')).run P w = .ok () w := eqGuard_plain (by rintro ⟨_, _, e, _⟩; cases e) (by rintro ⟨e, _⟩; cases e)
  have hss : ∀ {s s' : ByteArray}, (eqGuard op t ox oy (.string s) (.string s')).run P w = .ok () w := eqGuard_plain (by rintro ⟨_, _, e, _⟩; cases e) (by rintro ⟨e, _⟩; cases e)
  have hstr : ∀ {l l' : List Nat} {q : BinOp}, x = .str l → y = .str l' → q = op → sbin q l l' = some av → (∀ s s', binOp q t (.string s) (.string s') = Op.stringOp q s s') →
      ∃ v, (eqGuard op t ox oy vx vy).run P w = .ok () w ∧ (binOp op t vx vy).run P w = .ok v w ∧ VR ρ av v := by
    intro l l' q e1 e2 e3 e4 e5
    subst e1; subst e2; subst e3
    cases hx with | str h1 => cases hy with | str h2 =>
    subst h1; subst h2
    obtain ⟨v, hv, hr⟩ := sbin_run (P := P) (w := w) e4
    exact ⟨v, hss, by rw [e5]; exact hv, hr ρ⟩
  have harith : ∀ {f : Int → Int → Int} {q : BinOp}, q = op → arith f x y = some av → (∀ k m n, binOp q t (.int k m) (.int k n) = pure (.int k (k.wrap (f m n)))) →
      ∃ v, (eqGuard op t ox oy vx vy).run P w = .ok () w ∧ (binOp op t vx vy).run P w = .ok v w ∧ VR ρ av v := by
    intro f q e3 hb2 e5
    subst e3
    obtain ⟨k, m, n, rfl, rfl, rfl⟩ := arith_some hb2
    cases hx; cases hy
    exact ⟨_, hii, by rw [e5]; rfl, .int _ _⟩
  have hcmp : ∀ {f : Int → Int → Bool} {q : BinOp}, q = op → icmp f x y = some av → (∀ k m n, binOp q t (.int k m) (.int k n) = pure (.bool (f m n))) →
      ∃ v, (eqGuard op t ox oy vx vy).run P w = .ok () w ∧ (binOp op t vx vy).run P w = .ok v w ∧ VR ρ av v := by
    intro f q e3 hb2 e5
    subst e3
    obtain ⟨k, m, n, rfl, rfl, rfl⟩ := icmp_some hb2
    cases hx; cases hy
    exact ⟨_, hii, by rw [e5]; rfl, .bool _⟩
  have hbits : ∀ {q : BinOp}, q = op → ibits2 q x y = some av → (∀ k m n, binOp q t (.int k m) (.int k n) = Op.intBits q k m n) →
      ∃ v, (eqGuard op t ox oy vx vy).run P w = .ok () w ∧ (binOp op t vx vy).run P w = .ok v w ∧ VR ρ av v := by
    intro q e3 hb2 e5
    subst e3
    obtain ⟨k, m, n, rfl, rfl, hb3⟩ := ibits2_some hb2
    cases hx; cases hy
    obtain ⟨v, hv, hr⟩ := ibits_run (P := P) (w := w) hb3
    exact ⟨v, hii, by rw [e5]; exact hv, hr ρ⟩
  cases op with
  | add =>
    simp only [bin] at hb
    split at hb
    · exact hstr rfl rfl rfl hb fun _ _ => rfl
    · exact harith rfl hb fun k m n => by simp [binOp, Op.intArith]
  | sub => exact harith rfl hb fun k m n => by simp [binOp, Op.intArith]
  | mul => exact harith rfl hb fun k m n => by simp [binOp, Op.intArith]
  | quo =>
    simp only [bin] at hb
    split at hb
    case h_2 => cases hb
    rename_i k m k' n
    cases hx; cases hy
    rw [keq_eq, ieq_eq] at hb
    by_cases e : k = k'
    · subst e; simp only [decide_true, cond_true] at hb
      by_cases hn : n = 0
      · simp [hn] at hb
      · simp only [hn, decide_false, cond_false, Option.some.injEq] at hb; subst hb
        rw [awrap_eq]
        exact ⟨_, hii, by simp [binOp, Op.intDiv, hn], .int _ _⟩
    · simp [e] at hb
  | rem =>
    simp only [bin] at hb
    split at hb
    case h_2 => cases hb
    rename_i k m k' n
    cases hx; cases hy
    rw [keq_eq, ieq_eq] at hb
    by_cases e : k = k'
    · subst e; simp only [decide_true, cond_true] at hb
      by_cases hn : n = 0
      · simp [hn] at hb
      · simp only [hn, decide_false, cond_false, Option.some.injEq] at hb; subst hb
        exact ⟨_, hii, by simp [binOp, Op.intDiv, hn], .int _ _⟩
    · simp [e] at hb
  | and => exact hbits rfl hb fun k m n => by simp [binOp]
  | or => exact hbits rfl hb fun k m n => by simp [binOp]
  | xor => exact hbits rfl hb fun k m n => by simp [binOp]
  | andNot => exact hbits rfl hb fun k m n => by simp [binOp]
  | shl =>
    simp only [bin] at hb
    split at hb
    case h_2 => cases hb
    rename_i k m k' n
    cases hx; cases hy
    obtain ⟨v, hv, hr⟩ := ishift_run (P := P) (w := w) (yk := k') hb
    exact ⟨v, hii, by simpa [binOp] using hv, hr ρ⟩
  | shr =>
    simp only [bin] at hb
    split at hb
    case h_2 => cases hb
    rename_i k m k' n
    cases hx; cases hy
    obtain ⟨v, hv, hr⟩ := ishift_run (P := P) (w := w) (yk := k') hb
    exact ⟨v, hii, by simpa [binOp] using hv, hr ρ⟩
  | eql =>
    simp only [bin] at hb
    split at hb
    · rename_i k m k' n
      cases hx; cases hy
      rw [keq_eq, ieq_beq] at hb
      by_cases e : k = k'
      · subst e; simp only [decide_true, cond_true, Option.some.injEq] at hb; subst hb
        exact ⟨_, hii, by simp [binOp, Op.intCmp], .bool _⟩
      · simp [e] at hb
    · rename_i l l'
      exact hstr rfl rfl rfl (by simpa [sbin] using hb) fun _ _ => rfl
    · cases hr : eqv (eqK P t) x y with
      | none => rw [hr] at hb; cases hb
      | some r =>
        rw [hr] at hb; cases hb
        obtain ⟨h1, h2, _⟩ := eqv_run (w := w) (ox := ox) (oy := oy) (op := .eql) rfl hx hy hr
        exact ⟨_, h1, h2, .bool _⟩
  | neq =>
    simp only [bin] at hb
    split at hb
    · rename_i k m k' n
      cases hx; cases hy
      rw [keq_eq, ieq_beq] at hb
      by_cases e : k = k'
      · subst e; simp only [decide_true, cond_true, Option.some.injEq] at hb; subst hb
        exact ⟨_, hii, by simp [binOp, Op.intCmp, bne], .bool _⟩
      · simp [e] at hb
    · rename_i l l'
      exact hstr rfl rfl rfl (by simpa [sbin] using hb) fun _ _ => rfl
    · cases hr : eqv (eqK P t) x y with
      | none => rw [hr] at hb; cases hb
      | some r =>
        rw [hr] at hb; cases hb
        obtain ⟨h1, _, h2⟩ := eqv_run (w := w) (ox := ox) (oy := oy) (op := .neq) rfl hx hy hr
        exact ⟨_, h1, h2, .bool _⟩
  | lss =>
    simp only [bin] at hb
    split at hb
    · exact hstr rfl rfl rfl hb fun _ _ => rfl
    · exact hcmp rfl hb fun k m n => by simp [binOp, Op.intCmp, ilt_eq]
  | leq =>
    simp only [bin] at hb
    split at hb
    · exact hstr rfl rfl rfl hb fun _ _ => rfl
    · exact hcmp rfl hb fun k m n => by simp [binOp, Op.intCmp, not_ilt]
  | gtr =>
    simp only [bin] at hb
    split at hb
    · exact hstr rfl rfl rfl hb fun _ _ => rfl
    · exact hcmp rfl hb fun k m n => by simp [binOp, Op.intCmp, ilt_eq]
  | geq =>
    simp only [bin] at hb
    split at hb
    · exact hstr rfl rfl rfl hb fun _ _ => rfl
    · exact hcmp rfl hb fun k m n => by simp [binOp, Op.intCmp, not_ilt]

end
end Go.AM
