/- The operations that turn no heap: what the machine computes is what the model's operation answers, in every world that fits. No condition. -/
import Derived.Test.YtemmnocgkgoegaaAm6
import Derived.Laws.BytesString
namespace Go.AM
open Go

mutual
theorem absV_sound {ρ : Rho} : ∀ (v : Value) (a : AV), absV v = some a → VR ρ a v
  | .int k n, a, h => by simp [absV] at h; subst h; exact .int _ _
  | .bool b, a, h => by simp [absV] at h; subst h; exact .bool _
  | .string s, a, h => by simp [absV] at h; subst h; exact .str rfl
  | .pointer none, a, h => by simp [absV] at h; subst h; exact .nilp
  | .pointer (some _), a, h => by simp [absV] at h
  | .slice none n c, a, h => by
    unfold absV at h
    split at h <;> first | (cases h; done) | skip
    all_goals first | (simp_all; done) | skip
    rename_i e; cases e; cases h; exact .nils
  | .slice (some _) _ _, a, h => by simp [absV] at h
  | .map none, a, h => by simp [absV] at h; subst h; exact .nilm
  | .map (some _), a, h => by simp [absV] at h
  | .nilFunc, a, h => by simp [absV] at h; subst h; exact .nilf
  | .nilIface, a, h => by simp [absV] at h; subst h; exact .nili
  | .func f ⟨x⟩ ⟨y⟩, a, h => by
    cases f with
    | func g =>
      cases x with
      | nil => cases y with
        | nil => simp [absV] at h; subst h; exact .fn (fun _ e => by cases e) .nil .nil
        | cons _ _ => simp [absV] at h
      | cons _ _ => simp [absV] at h
    | _ => simp [absV] at h
  | .agg ⟨cs⟩, a, h => by
    simp only [absV] at h
    cases hc : absVs cs with
    | none => rw [hc] at h; cases h
    | some l => rw [hc] at h; cases h; exact .agg (absVs_sound cs l hc)
  | .tuple ⟨cs⟩, a, h => by
    simp only [absV] at h
    cases hc : absVs cs with
    | none => rw [hc] at h; cases h
    | some l => rw [hc] at h; cases h; exact .tup (absVs_sound cs l hc)
  | .float .., a, h => by simp [absV] at h
  | .complex .., a, h => by simp [absV] at h
  | .chan _, a, h => by simp [absV] at h
  | .iface .., a, h => by simp [absV] at h
theorem absVs_sound {ρ : Rho} : ∀ (vs : List Value) (l : List AV), absVs vs = some l → VRs ρ l vs
  | [], l, h => by simp [absVs] at h; subst h; exact .nil
  | v :: vs, l, h => by
    simp only [absVs] at h
    cases h1 : absV v with
    | none => rw [h1] at h; cases h
    | some a =>
      cases h2 : absVs vs with
      | none => rw [h1, h2] at h; cases h
      | some r => rw [h1, h2] at h; cases h; exact .cons (absV_sound v a h1) (absVs_sound vs r h2)
end

section
variable {P : Program} {ρ : Rho} {h : AHeap} {B : Nat} {w : World} {tm : List AV} {a : Act}

theorem opd_sound (ht : TR ρ tm a.tmps) {x : Operand} {ax : AOpd} (hx : trOpd x = some ax) : VR ρ (ev tm ax) (a.eval x) := by
  cases x with
  | tmp t => simp [trOpd] at hx; subst hx; exact ht.nth t
  | const v =>
    simp only [trOpd] at hx
    cases hv : absV v with
    | none => rw [hv] at hx; cases hx
    | some av => rw [hv] at hx; cases hx; exact absV_sound v av hv
  | global g => simp [trOpd] at hx
  | func f => simp [trOpd] at hx; subst hx; exact .fn (fun _ e => by cases e) .nil .nil

theorem opds_sound (ht : TR ρ tm a.tmps) : ∀ {xs : List Operand} {axs : List AOpd}, trOpds xs = some axs → VRs ρ (evs tm axs) (xs.map a.eval)
  | [], _, hx => by simp [trOpds] at hx; subst hx; exact .nil
  | x :: xs, _, hx => by
    simp only [trOpds] at hx
    cases h1 : trOpd x with
    | none => rw [h1] at hx; cases hx
    | some ax =>
      cases h2 : trOpds xs with
      | none => rw [h1, h2] at hx; cases hx
      | some axs => rw [h1, h2] at hx; cases hx; exact .cons (opd_sound ht h1) (opds_sound ht h2)

theorem zeroOf_run {t : TypeId} {z : List AV} (hz : zeroOf P t = some z) (ρ : Rho) (w : World) : ∃ zv, (zeroValue t).run P w = .ok zv w ∧ VRs ρ z zv.cells.toList := by
  unfold zeroOf at hz
  cases hi : P.info? t with
  | none => simp [hi] at hz
  | some i =>
    simp only [hi] at hz
    cases hzv : i.zero with
    | none => simp [hzv] at hz
    | some zv =>
      simp only [hzv] at hz
      exact ⟨zv, by simp [zeroValue, run_typeInfo w hi, hzv], absVs_sound _ _ hz⟩
theorem zeroV_run {t : TypeId} {z : AV} (hz : zeroV P t = some z) (ρ : Rho) (w : World) : ∃ zv, (zeroValue t).run P w = .ok zv w ∧ VR ρ z zv := by
  unfold zeroV at hz
  cases hi : P.info? t with
  | none => simp [hi] at hz
  | some i =>
    simp only [hi] at hz
    cases hzv : i.zero with
    | none => simp [hzv] at hz
    | some zv =>
      simp only [hzv] at hz
      exact ⟨zv, by simp [zeroValue, run_typeInfo w hi, hzv], absV_sound _ _ hz⟩

theorem layT_some {t : TypeId} {n : Option Nat} (hl : layT P t = some n) : (∃ k, n = some k ∧ aggT P t = some true ∧ sizeT P t = some k) ∨ (n = none ∧ aggT P t = some false) := by
  unfold layT at hl
  cases h1 : aggT P t with
  | none => simp [h1] at hl
  | some b =>
    cases h2 : sizeT P t with
    | none => cases b <;> simp [h1, h2] at hl
    | some k => cases b <;> simp [h1, h2] at hl <;> subst hl <;> simp

/-- LOADING a variable. -/
theorem fit_run (hs : Sim P ρ h B w) {i off : Nat} {c : List AV} {r : Bool} {p : Place} {n : Option Nat} {t : TypeId} {av : AV} (hg : h.get i = some (.cells c r)) (hp : ρ i = some p)
    (hl : layT P t = some n) (hf : fit n off c = some av) : ∃ v, (loadVar t ⟨p.blk, p.base + off, none⟩).run P w = .ok v w ∧ VR ρ av v := by
  rcases layT_some hl with ⟨k, rfl, h1, h2⟩ | ⟨rfl, h1⟩
  · simp only [fit] at hf
    cases hc : cut c off k with
    | none => rw [hc] at hf; cases hf
    | some rr =>
      rw [hc] at hf; cases hf
      obtain ⟨vs, e1, e2, e3⟩ := read_cut hs hg hp hc
      refine ⟨.agg ⟨vs⟩, ?_, .agg e2⟩
      have := run_loadCells_of (P := P) (w := w) (b := p.blk) (o := p.base + off) e3
      rw [e1] at this
      simp [loadVar, aggT_run h1, sizeT_run h2, this]
  · simp only [fit] at hf
    cases hc : cut c off 1 with
    | none => rw [hc] at hf; cases hf
    | some rr =>
      rw [hc] at hf
      obtain ⟨vs, e1, e2, e3⟩ := read_cut hs hg hp hc
      cases e2 with
      | nil => simp at e1
      | cons hv hvs =>
        cases hvs with
        | cons _ _ => simp at e1
        | nil =>
          simp only [Option.some.injEq] at hf; subst hf
          have := e3 0 _ rfl
          simp only [Nat.add_zero] at this
          exact ⟨_, by simp [loadVar, aggT_run h1, this], hv⟩

/-- A PART of a struct or an array that is a value. -/
theorem fit_part {cs : List AV} {vs : Array Value} (hv : VRs ρ cs vs.toList) {n : Option Nat} {off : Nat} {t : TypeId} {av : AV} (hl : layT P t = some n) (hf : fit n off cs = some av) :
    ∃ v, (part t vs off).run P w = .ok v w ∧ VR ρ av v := by
  have hlen := VRs.length hv
  rcases layT_some hl with ⟨k, rfl, h1, h2⟩ | ⟨rfl, h1⟩
  · simp only [fit] at hf
    cases hc : cut cs off k with
    | none => rw [hc] at hf; cases hf
    | some rr =>
      rw [hc] at hf; cases hf
      obtain ⟨g1, rfl⟩ := cut_eq hc
      refine ⟨.agg (vs.extract off (off + k)), by simp [part, aggT_run h1, sizeT_run h2], .agg ?_⟩
      have : (vs.extract off (off + k)).toList = (vs.toList.drop off).take k := by
        simp [Array.toList_extract, List.extract]
      rw [this]
      exact (hv.drop off).take k
  · simp only [fit] at hf
    cases hc : cut cs off 1 with
    | none => rw [hc] at hf; cases hf
    | some rr =>
      rw [hc] at hf
      obtain ⟨g1, rfl⟩ := cut_eq hc
      have hlt : off < cs.length := by omega
      have : (cs.drop off).take 1 = [cs[off]] := by rw [List.take_one, List.head?_drop]; simp [hlt]
      rw [this] at hf; cases hf
      obtain ⟨y, hy, hr⟩ := VRs.get hv (List.getElem?_eq_getElem hlt)
      have hy' : vs[off]? = some y := by simpa using hy
      exact ⟨y, by simp [part, aggT_run h1, hy'], hr⟩

theorem bytes_run {r : List AV} {vs : List Value} (hv : VRs ρ r vs) : ∀ {l : List Nat}, bytesOf r = some l → ∃ ns : List Int, vs = ns.map (Value.int .u8) ∧ l = ns.map fun n => n.toNat % 256 := by
  induction r generalizing vs with
  | nil => intro l hl; simp [bytesOf] at hl; subst hl; cases hv; exact ⟨[], rfl, rfl⟩
  | cons x xs ih =>
    intro l hl
    cases hv with
    | cons h1 h2 =>
      cases x with
      | int k n =>
        cases k <;> simp [bytesOf] at hl
        cases hb : bytesOf xs with
        | none => rw [hb] at hl; cases hl
        | some l' =>
          rw [hb] at hl; cases hl
          obtain ⟨ns, rfl, rfl⟩ := ih h2 hb
          cases h1
          exact ⟨n :: ns, rfl, rfl⟩
      | _ => simp [bytesOf] at hl

theorem foldl_push (ns : List Int) : ∀ s : ByteArray, (ns.foldl (fun r n => r.push (UInt8.ofNat n.toNat)) s).data.toList.map (·.toNat) = s.data.toList.map (·.toNat) ++ ns.map fun n => n.toNat % 256 := by
  induction ns with
  | nil => intro s; simp
  | cons n ns ih => intro s; rw [List.foldl_cons, ih]; simp

theorem bounds_run {isSlice : Bool} {len cap l hh m : Nat} {lo hi mx : Option Int} {vlo vhi vmx : Option Value}
    (hb : bounds len cap lo hi mx = some (l, hh, m)) (h1 : ∀ x, lo = some x → ∃ k, vlo = some (.int k x)) (h1' : lo = none → vlo = none) (h2 : ∀ x, hi = some x → ∃ k, vhi = some (.int k x)) (h2' : hi = none → vhi = none)
    (h3 : ∀ x, mx = some x → ∃ k, vmx = some (.int k x)) (h3' : mx = none → vmx = none) :
    (Instr.sliceBounds isSlice len cap vlo vhi vmx).run P w = .ok (l, hh, m) w := by
  have hbnd : ∀ (k : IntKind) (x : Int) (y : Nat) (c : BoundsCode), 0 ≤ x ∧ x ≤ y → (Instr.sliceBound (.int k x) y c).run P w = .ok x.toNat w := by
    intro k x y c hc
    simp [Instr.sliceBound, asIntOf, hc]
  unfold bounds at hb
  cases mx with
  | none =>
    obtain rfl := h3' rfl
    simp only at hb
    cases hi with
    | none =>
      obtain rfl := h2' rfl
      simp only at hb
      cases lo with
      | none => obtain rfl := h1' rfl; simp at hb; obtain ⟨rfl, rfl, rfl⟩ := hb; simp [Instr.sliceBounds]
      | some x =>
        obtain ⟨k, rfl⟩ := h1 x rfl
        simp only at hb
        by_cases c : 0 ≤ x ∧ x ≤ (len : Int)
        · rw [if_pos c] at hb; simp at hb; obtain ⟨rfl, rfl, rfl⟩ := hb
          simp [Instr.sliceBounds, hbnd k x len _ c]
        · rw [if_neg c] at hb; simp at hb
    | some y =>
      obtain ⟨ky, rfl⟩ := h2 y rfl
      simp only at hb
      by_cases cy : 0 ≤ y ∧ y ≤ (cap : Int)
      · rw [if_pos cy] at hb
        simp only at hb
        cases lo with
        | none => obtain rfl := h1' rfl; simp at hb; obtain ⟨rfl, rfl, rfl⟩ := hb; simp [Instr.sliceBounds, hbnd ky y cap _ cy]
        | some x =>
          obtain ⟨k, rfl⟩ := h1 x rfl
          simp only at hb
          by_cases c : 0 ≤ x ∧ x ≤ ((y.toNat : Nat) : Int)
          · rw [if_pos c] at hb; simp at hb; obtain ⟨rfl, rfl, rfl⟩ := hb
            simp [Instr.sliceBounds, hbnd ky y cap _ cy, hbnd k x y.toNat _ c]
          · rw [if_neg c] at hb; simp at hb
      · rw [if_neg cy] at hb; simp at hb
  | some z =>
    obtain ⟨kz, rfl⟩ := h3 z rfl
    simp only at hb
    by_cases cz : 0 ≤ z ∧ z ≤ (cap : Int)
    · rw [if_pos cz] at hb
      simp only at hb
      cases hi with
      | none => simp at hb
      | some y =>
        obtain ⟨ky, rfl⟩ := h2 y rfl
        simp only at hb
        by_cases cy : 0 ≤ y ∧ y ≤ ((z.toNat : Nat) : Int)
        · rw [if_pos cy] at hb
          simp only at hb
          cases lo with
          | none => obtain rfl := h1' rfl; simp at hb; obtain ⟨rfl, rfl, rfl⟩ := hb; simp [Instr.sliceBounds, hbnd kz z cap _ cz, hbnd ky y z.toNat _ cy]
          | some x =>
            obtain ⟨k, rfl⟩ := h1 x rfl
            simp only at hb
            by_cases c : 0 ≤ x ∧ x ≤ ((y.toNat : Nat) : Int)
            · rw [if_pos c] at hb; simp at hb; obtain ⟨rfl, rfl, rfl⟩ := hb
              simp [Instr.sliceBounds, hbnd kz z cap _ cz, hbnd ky y z.toNat _ cy, hbnd k x y.toNat _ c]
            · rw [if_neg c] at hb; simp at hb
        · rw [if_neg cy] at hb; simp at hb
    · rw [if_neg cz] at hb; simp at hb

/-- what the bounds say of one another -/
theorem bounds_le {len cap l hh m : Nat} {lo hi mx : Option Int} (hb : bounds len cap lo hi mx = some (l, hh, m)) (hlc : len ≤ cap) : l ≤ hh ∧ hh ≤ m ∧ m ≤ cap := by
  unfold bounds at hb
  split at hb
  · cases hb
  · rename_i m' hm
    split at hb
    · cases hb
    · rename_i h' hh'
      split at hb
      · cases hb
      · rename_i l' hl
        simp at hb; obtain ⟨rfl, rfl, rfl⟩ := hb
        have e1 : m' ≤ cap := by
          revert hm; cases mx with
          | none => intro hm; simp at hm; omega
          | some z => intro hm; simp only at hm; split at hm <;> simp at hm; omega
        have e2 : h' ≤ m' := by
          revert hh'; cases hi with
          | none => cases mx with
            | none => intro hh'; simp at hh' hm; omega
            | some z => intro hh'; simp at hh'
          | some y => intro hh'; simp only at hh'; split at hh' <;> simp at hh'; omega
        have e3 : l' ≤ h' := by
          revert hl; cases lo with
          | none => intro hl; simp at hl; omega
          | some x => intro hl; simp only at hl; split at hl <;> simp at hl; omega
        exact ⟨e3, e2, e1⟩

theorem optInt_sound (ht : TR ρ tm a.tmps) {x : Option Operand} {ax : Option AOpd} (hx : trO x = some ax) {r : Option Int} (hr : optInt tm ax = some r) :
    (∀ n, r = some n → ∃ k, x.map a.eval = some (.int k n)) ∧ (r = none → x.map a.eval = none) := by
  cases x with
  | none => simp [trO] at hx; subst hx; simp [optInt] at hr; subst hr; simp
  | some x =>
    simp only [trO] at hx
    cases h1 : trOpd x with
    | none => rw [h1] at hx; cases hx
    | some y =>
      rw [h1] at hx; cases hx
      have hv := opd_sound ht h1
      simp only [optInt] at hr
      simp only [Option.map_some]
      generalize a.eval x = vx at hv ⊢
      revert hr hv
      cases ev tm y with
      | int k n => intro hr hv; simp at hr; subst hr; refine ⟨fun n' e => ?_, by simp⟩; cases e; cases hv; exact ⟨k, rfl⟩
      | _ => intro hr; simp at hr

end
end Go.AM
