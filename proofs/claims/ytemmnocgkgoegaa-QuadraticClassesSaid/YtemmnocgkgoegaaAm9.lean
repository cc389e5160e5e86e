/- Each operation that turns no heap: sound. No condition. -/
import Derived.Test.YtemmnocgkgoegaaAm8
namespace Go.AM
open Go

section
variable {P : Program} {ρ : Rho} {h : AHeap} {B : Nat} {w : World} {tm : List AV} {a : Act}

theorem fills_run (ht : TR ρ tm a.tmps) {place : Nat → Option (Nat × Nat)} : ∀ (ps : List (Nat × Operand)) (l : List (Nat × Nat × AOpd)) (z c : List AV) (zs : Array Value),
    (∀ (k : Nat) i x, ps[k]? = some (i, x) → ∃ off n ax, l[k]? = some (off, n, ax) ∧ place i = some (off, n) ∧ trOpd x = some ax) → l.length = ps.length → VRs ρ z zs.toList → fills z l tm = some c →
    ∃ cs, Instr.fill place zs (ps.map fun p => (p.1, a.eval p.2)) = some cs ∧ VRs ρ c cs.toList
  | [], l, z, c, zs, _, hl, hz, hf => by
    obtain rfl := List.eq_nil_of_length_eq_zero (by simpa using hl)
    simp [fills] at hf; subst hf
    exact ⟨zs, rfl, hz⟩
  | (i, x) :: ps, l, z, c, zs, hp, hl, hz, hf => by
    obtain ⟨off, n, ax, e1, e2, e3⟩ := hp 0 i x rfl
    cases l with
    | nil => simp at e1
    | cons q l =>
      simp at e1; subst e1
      simp only [fills] at hf
      split at hf
      · rename_i hlen
        have hv := opd_sound ht e3
        have hcells := hv.cells
        cases hlay : lay z off (ev tm ax).cells with
        | none => rw [hlay] at hf; cases hf
        | some z' =>
          rw [hlay] at hf
          obtain ⟨g1, g2, g3⟩ := lay_spec hlay
          have hzl := VRs.length hz
          have hcl := VRs.length hcells
          -- the model's fill of one part
          have hfold : ∀ (us : List Value) (o : Nat) (cc : Array Value), (us.zipIdx o).foldl (fun cs (p : Value × Nat) => cs.setIfInBounds (off + p.2) p.1) cc = over cc (off + o) us := by
            intro us
            induction us with
            | nil => intro o cc; rfl
            | cons u us ih => intro o cc; simp only [List.zipIdx_cons, List.foldl_cons, over]; rw [ih]; rfl
          have harr : ((a.eval x).cells.zipIdx.foldl (fun cs (p : Value × Nat) => cs.setIfInBounds (off + p.2) p.1) zs) = over zs off (a.eval x).cells.toList := by
            rw [← Array.foldl_toList, Array.toList_zipIdx]
            exact hfold _ 0 zs
          have hsz : (a.eval x).cells.size = n := by rw [← Array.length_toList, ← hcl]; exact hlen
          have hle : off + (a.eval x).cells.size ≤ zs.size := by
            rw [← Array.length_toList (xs := zs), ← hzl, hsz]; rw [hlen] at g2; exact g2
          have hz' : VRs ρ z' (over zs off (a.eval x).cells.toList).toList := by
            refine VRs.of_get (by simp only [g1, Array.length_toList, over_size]; simpa using hzl) fun k p q hp hq => ?_
            rw [g3 k] at hp
            rw [Array.getElem?_toList, over_get _ _ _ _ (by simpa using hle)] at hq
            by_cases hk : off ≤ k ∧ k < off + (ev tm ax).cells.length
            · rw [if_pos hk] at hp
              rw [if_pos (by rw [← hcl]; exact hk)] at hq
              obtain ⟨y, hy, hr⟩ := VRs.get hcells hp
              rw [hq] at hy; cases hy; exact hr
            · rw [if_neg hk] at hp
              rw [if_neg (by rw [← hcl]; exact hk)] at hq
              obtain ⟨y, hy, hr⟩ := VRs.get hz hp
              rw [Array.getElem?_toList, hq] at hy; cases hy; exact hr
          obtain ⟨cs, k1, k2⟩ := fills_run ht ps l z' c _ (fun k i' x' hk => by have := hp (k + 1) i' x' (by simpa using hk); simpa using this) (by simpa using hl) hz' hf
          refine ⟨cs, ?_, k2⟩
          simp only [List.map_cons, Instr.fill, e2]
          rw [if_neg (by simp only [ne_eq, Bool.or_eq_true, decide_eq_true_eq, not_or, Classical.not_not]; exact ⟨hsz, by omega⟩)]
          rw [harr]; exact k1
      · cases hf

theorem trParts_spec : ∀ {ps : List (Nat × Operand)} {l : List (Nat × AOpd)}, trParts ps = some l → l.length = ps.length ∧ ∀ (k : Nat) i x, ps[k]? = some (i, x) → ∃ ax, l[k]? = some (i, ax) ∧ trOpd x = some ax
  | [], l, h => by simp [trParts] at h; subst h; simp
  | (i, x) :: ps, l, h => by
    simp only [trParts] at h
    cases h1 : trOpd x with
    | none => rw [h1] at h; cases h
    | some ax =>
      cases h2 : trParts ps with
      | none => rw [h1, h2] at h; cases h
      | some r =>
        rw [h1, h2] at h; cases h
        obtain ⟨g1, g2⟩ := trParts_spec h2
        refine ⟨by simp [g1], fun k j y hk => ?_⟩
        cases k with
        | zero => simp at hk; obtain ⟨rfl, rfl⟩ := hk; exact ⟨ax, rfl, h1⟩
        | succ k => simpa using g2 k j y (by simpa using hk)

theorem partsS_spec {fs : Array Field} : ∀ {l : List (Nat × AOpd)} {m : List (Nat × Nat × AOpd)}, partsS P fs l = some m → m.length = l.length ∧
    ∀ (k : Nat) i x, l[k]? = some (i, x) → ∃ f n, fs[i]? = some f ∧ sizeT P f.type = some n ∧ m[k]? = some (f.offset, n, x)
  | [], m, h => by simp [partsS] at h; subst h; simp
  | (i, x) :: l, m, h => by
    simp only [partsS] at h
    cases h1 : fs[i]? with
    | none => rw [h1] at h; cases h
    | some f =>
      rw [h1] at h
      simp only at h
      cases h2 : sizeT P f.type with
      | none => rw [h2] at h; cases h
      | some n =>
        cases h3 : partsS P fs l with
        | none => rw [h2, h3] at h; cases h
        | some r =>
          rw [h2, h3] at h; cases h
          obtain ⟨g1, g2⟩ := partsS_spec h3
          refine ⟨by simp [g1], fun k j y hk => ?_⟩
          cases k with
          | zero => simp at hk; obtain ⟨rfl, rfl⟩ := hk; exact ⟨f, n, h1, h2, rfl⟩
          | succ k => simpa using g2 k j y (by simpa using hk)

/-- the sizes of a struct's fields are asked one by one: they are all known -/
theorem mapM_places (fs : Array Field) (hall : ∀ f ∈ fs, ∃ i, P.info? f.type = some i) :
    (fs.mapM fun f => do pure (f.offset, ← sizeOf f.type) : Sem (Array (Nat × Nat))).run P w = .ok (fs.map fun f => (f.offset, P.cellsOf f.type)) w := by
  rw [Array.mapM_eq_mapM_toList]
  simp only [Sem.run_map]
  have : ∀ l : List Field, (∀ f ∈ l, ∃ i, P.info? f.type = some i) → (l.mapM fun f => do pure (f.offset, ← sizeOf f.type) : Sem (List (Nat × Nat))).run P w = .ok (l.map fun f => (f.offset, P.cellsOf f.type)) w := by
    intro l
    induction l with
    | nil => intro _; simp
    | cons f l ih =>
      intro hl
      obtain ⟨i, hi⟩ := hl f (by simp)
      simp only [List.mapM_cons, Sem.run_bind, run_sizeOf w hi, Result.andThen_ok, Sem.run_pure, ih (fun g hg => hl g (by simp [hg])), List.map_cons]
  rw [this fs.toList (fun f hf => hall f (by simpa using hf))]
  simp only [Result.andThen_ok]
  congr 1
  apply Array.ext'
  simp

theorem maxs_run : ∀ {l : List AV} {vs : List Value} {x av : AV} {vx : Value}, VR ρ x vx → VRs ρ l vs → maxs x l = some av → ∃ v, (vs.foldlM Builtin.max2 vx : Sem Value).run P w = .ok v w ∧ VR ρ av v
  | [], vs, x, av, vx, hx, hl, hm => by
    simp [maxs] at hm; subst hm; cases hl; exact ⟨vx, rfl, hx⟩
  | y :: l, vs, x, av, vx, hx, hl, hm => by
    cases hl with
    | cons hy hl =>
      unfold maxs at hm
      split at hm
      · rename_i heq; cases heq
      · rename_i k m k' n r heq
        cases heq
        split at hm
        · rename_i e; subst e
          cases hx; cases hy
          obtain ⟨v, hv, hr⟩ := maxs_run (vx := .int k (if n > m then n else m)) (.int _ _) hl hm
          exact ⟨v, by simpa [List.foldlM_cons, Builtin.max2] using hv, hr⟩
        · cases hm
      · cases hm
theorem mins_run : ∀ {l : List AV} {vs : List Value} {x av : AV} {vx : Value}, VR ρ x vx → VRs ρ l vs → mins x l = some av → ∃ v, (vs.foldlM Builtin.min2 vx : Sem Value).run P w = .ok v w ∧ VR ρ av v
  | [], vs, x, av, vx, hx, hl, hm => by
    simp [mins] at hm; subst hm; cases hl; exact ⟨vx, rfl, hx⟩
  | y :: l, vs, x, av, vx, hx, hl, hm => by
    cases hl with
    | cons hy hl =>
      unfold mins at hm
      split at hm
      · rename_i heq; cases heq
      · rename_i k m k' n r heq
        cases heq
        split at hm
        · rename_i e; subst e
          cases hx; cases hy
          obtain ⟨v, hv, hr⟩ := mins_run (vx := .int k (if n < m then n else m)) (.int _ _) hl hm
          exact ⟨v, by simpa [List.foldlM_cons, Builtin.min2] using hv, hr⟩
        · cases hm
      · cases hm

/-- what is said of an operation that turns no heap -/
abbrev QS (P : Program) (ρ : Rho) (w : World) (a : Act) (o : Oper) (av : AV) : Prop := ∃ v, (execOp a.eval o).run P w = .ok (.value v) w ∧ VR ρ av v

theorem q_move (ht : TR ρ tm a.tmps) {o : Oper} {x : Operand} (ho : o.op = .move x ∨ o.op = .assign x) {ax : AOpd} (hx : trOpd x = some ax) : QS P ρ w a o (ev tm ax) := by
  rcases ho with ho | ho <;> exact ⟨a.eval x, by simp [execOp, ho], opd_sound ht hx⟩

theorem q_load (hs : Sim P ρ h B w) (ht : TR ρ tm a.tmps) {o : Oper} {t : TypeId} {x : Operand} (ho : o.op = .load t x) {n : Option Nat} {ax : AOpd} (hn : layT P t = some n) (hx : trOpd x = some ax) {av : AV}
    (he : evalQ (.load n ax) tm h = some av) : QS P ρ w a o av := by
  have hv := opd_sound ht hx
  simp only [evalQ] at he
  cases hax : ev tm ax with
  | ptr i off =>
    rw [hax] at he hv
    simp only [cellsOf] at he
    cases hg : h.get i with
    | none => rw [hg] at he; cases he
    | some ob =>
      cases ob with
      | cells c r =>
        rw [hg] at he
        generalize hvx : a.eval x = vx at hv
        cases hv with
        | ptr hp =>
          obtain ⟨v, h1, h2⟩ := fit_run hs hg hp hn he
          exact ⟨v, by simp [execOp, ho, hvx, Instr.loadAt, Instr.sureAddr, h1], h2⟩
      | _ => rw [hg] at he; cases he
  | _ => rw [hax] at he; cases he

theorem q_bin (ht : TR ρ tm a.tmps) {o : Oper} {op : BinOp} {t t' : TypeId} {x y : Operand} (ho : o.op = .binOp op t x y t') {ax ay : AOpd} (hx : trOpd x = some ax) (hy : trOpd y = some ay) {av : AV}
    (he : bin op (eqK P t) (ev tm ax) (ev tm ay) = some av) : QS P ρ w a o av := by
  obtain ⟨v, h1, h2, h3⟩ := bin_run (w := w) (ox := x) (oy := y) (opd_sound ht hx) (opd_sound ht hy) he
  exact ⟨v, by simp [execOp, ho, h1, h2], h3⟩

theorem q_un (ht : TR ρ tm a.tmps) {o : Oper} {op : UnOp} {t : TypeId} {x : Operand} (ho : o.op = .unOp op t x) {ax : AOpd} (hx : trOpd x = some ax) {av : AV} (he : un op (ev tm ax) = some av) : QS P ρ w a o av := by
  have hv := opd_sound ht hx
  unfold un at he
  generalize hvx : a.eval x = vx at hv
  split at he
  · rename_i k n heq
    rw [heq] at hv; cases hv
    cases he
    rw [awrap_eq]
    exact ⟨_, by simp [execOp, ho, hvx, Op.unary, Op.intArith], .int _ _⟩
  · rename_i k n heq
    rw [heq] at hv; cases hv
    obtain ⟨v, h1, h2⟩ := ibits_run (P := P) (w := w) he
    have : (Op.intBits .xor k (if k.signed then -1 else k.max) n).run P w = (Op.intBits .xor k (-1) n).run P w := by
      cases k <;> rfl
    exact ⟨v, by simp [execOp, ho, hvx, Op.unary, this, h1], h2 ρ⟩
  · rename_i b heq
    rw [heq] at hv; cases hv
    cases he
    exact ⟨_, by simp [execOp, ho, hvx, Op.unary], .bool _⟩
  · cases he

theorem q_slice (_hs : Sim P ρ h B w) {t e : TypeId} {sz : Nat} (hu : P.underlying t = some (.slice e)) (hsz : sizeT P e = some sz) {x av : AV} {vx : Value} (hv : VR ρ x vx) {lo hi mx : Option Int} {vlo vhi vmx : Option Value}
    (h1 : ∀ x, lo = some x → ∃ k, vlo = some (.int k x)) (h1' : lo = none → vlo = none) (h2 : ∀ x, hi = some x → ∃ k, vhi = some (.int k x)) (h2' : hi = none → vhi = none)
    (h3 : ∀ x, mx = some x → ∃ k, vmx = some (.int k x)) (h3' : mx = none → vmx = none) (he : sl sz x lo hi mx = some av) : ∃ v, (Instr.slice t vx vlo vhi vmx).run P w = .ok v w ∧ VR ρ av v := by
  unfold sl at he
  split at he
  · -- nil
    cases hv
    cases hb : bounds 0 0 lo hi mx with
    | none => rw [hb] at he; cases he
    | some q =>
      obtain ⟨l, hh, m⟩ := q
      rw [hb] at he; cases he
      obtain ⟨g1, g2, g3⟩ := bounds_le hb (Nat.le_refl _)
      have hr := bounds_run (P := P) (w := w) (isSlice := true) hb h1 h1' h2 h2' h3 h3'
      obtain rfl : m = 0 := by omega
      obtain rfl : hh = 0 := by omega
      obtain rfl : l = 0 := by omega
      exact ⟨.slice none 0 0, by simp [Instr.slice, run_underlying hu, hr, sizeT_run hsz], .nils⟩
  · -- the capacity is known
    rename_i i off len c
    cases hb : bounds len c lo hi mx with
    | none => rw [hb] at he; cases he
    | some q =>
      obtain ⟨l, hh, m⟩ := q
      rw [hb] at he; cases he
      cases hv with
      | slx hp hc =>
        obtain ⟨g1, g2, g3⟩ := bounds_le hb hc
        have hr := bounds_run (P := P) (w := w) (isSlice := true) hb h1 h1' h2 h2' h3 h3'
        refine ⟨_, by simp only [Instr.slice, Sem.run_bind, run_underlying hu, Result.andThen_ok, hr, sizeT_run hsz, Sem.run_pure]; rfl, ?_⟩
        by_cases e : m = l
        · rw [if_pos e, if_pos e]; exact .slx hp (by omega)
        · rw [if_neg e, if_neg e]
          simp only [Option.map_some, Addr.add_plain]
          rw [Nat.add_assoc]
          exact .slx hp (by omega)
  · -- the capacity is what room there is
    rename_i i off len s
    split at he
    · rename_i es; subst es
      split at he
      · -- two indexes
        cases hb : bounds len len lo hi none with
        | none => rw [hb] at he; cases he
        | some q =>
          obtain ⟨l, hh, m⟩ := q
          rw [hb] at he; cases he
          obtain ⟨g1, g2, g3⟩ := bounds_le hb (Nat.le_refl _)
          cases hv with
          | slo hp hc hroom =>
            rename_i c p
            have hb' : bounds len c lo hi none = some (l, hh, c) := by
              revert hb; unfold bounds; simp only []
              have last : ∀ h' : Nat, (match (match lo with | some l => if 0 ≤ l ∧ l ≤ (h' : Int) then some l.toNat else none | none => some 0) with | none => none | some l => some (l, h', len)) = some (l, hh, m) →
                  (match (match lo with | some l => if 0 ≤ l ∧ l ≤ (h' : Int) then some l.toNat else none | none => some 0) with | none => none | some l => some (l, h', c)) = some (l, hh, c) := by
                intro h' hb
                cases hm : (match lo with | some l => if 0 ≤ l ∧ l ≤ (h' : Int) then some l.toNat else none | none => some 0) with
                | none => rw [hm] at hb; cases hb
                | some l' => rw [hm] at hb; simp only [Option.some.injEq, Prod.mk.injEq] at hb ⊢; exact ⟨hb.1, hb.2.1, trivial⟩
              cases hi with
              | none => simp only []; intro hb; exact last len hb
              | some y =>
                simp only []
                intro hb
                by_cases cy : 0 ≤ y ∧ y ≤ (len : Int)
                · rw [if_pos cy] at hb; rw [if_pos (by omega)]
                  exact last _ hb
                · rw [if_neg cy] at hb; simp at hb
            have hr := bounds_run (P := P) (w := w) (isSlice := true) hb' h1 h1' h2 h2' h3 h3'
            refine ⟨_, by simp only [Instr.slice, Sem.run_bind, run_underlying hu, Result.andThen_ok, hr, sizeT_run hsz, Sem.run_pure]; rfl, ?_⟩
            by_cases e : c = l
            · rw [if_pos e]
              obtain rfl : hh = l := by omega
              rw [Nat.sub_self, e, Nat.sub_self]
              exact .sle _ hp (by rw [← hroom, e])
            · rw [if_neg e]
              simp only [Option.map_some, Addr.add_plain]
              rw [Nat.add_assoc]
              refine .slo hp (by omega) ?_
              rw [← hroom, Nat.add_assoc, ← Nat.add_mul]; congr 2; omega
          | sle ad hp hroom =>
            have hr := bounds_run (P := P) (w := w) (isSlice := true) hb h1 h1' h2 h2' h3 h3'
            obtain rfl : m = 0 := by omega
            obtain rfl : hh = 0 := by omega
            obtain rfl : l = 0 := by omega
            refine ⟨_, by simp only [Instr.slice, Sem.run_bind, run_underlying hu, Result.andThen_ok, hr, sizeT_run hsz, Sem.run_pure]; rfl, ?_⟩
            simp only [if_true, Nat.sub_self, Nat.zero_mul, Nat.add_zero]
            exact .sle _ hp hroom
      · -- three
        rename_i z
        split at he
        · cases he
        rename_i hl0
        cases hb : bounds len len lo hi (some z) with
        | none => rw [hb] at he; cases he
        | some q =>
          obtain ⟨l, hh, m⟩ := q
          rw [hb] at he; cases he
          obtain ⟨g1, g2, g3⟩ := bounds_le hb (Nat.le_refl _)
          cases hv with
          | slo hp hc hroom =>
            rename_i c p
            have hb' : bounds len c lo hi (some z) = some (l, hh, m) := by
              revert hb; unfold bounds; simp only []
              intro hb
              by_cases cz : 0 ≤ z ∧ z ≤ (len : Int)
              · rw [if_pos cz] at hb; rw [if_pos (by omega)]; exact hb
              · rw [if_neg cz] at hb; simp at hb
            have hr := bounds_run (P := P) (w := w) (isSlice := true) hb' h1 h1' h2 h2' h3 h3'
            refine ⟨_, by simp only [Instr.slice, Sem.run_bind, run_underlying hu, Result.andThen_ok, hr, sizeT_run hsz, Sem.run_pure]; rfl, ?_⟩
            by_cases e : m = l
            · rw [if_pos e, if_pos e]; exact .slx hp (by omega)
            · rw [if_neg e, if_neg e]
              simp only [Option.map_some, Addr.add_plain]
              rw [Nat.add_assoc]
              exact .slx hp (by omega)
          | sle ad hp hroom => exact absurd rfl hl0
    · cases he
  · cases he

end
end Go.AM
