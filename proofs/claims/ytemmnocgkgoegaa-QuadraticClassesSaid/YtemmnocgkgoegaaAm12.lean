/- The operations that make one new object: sound. No condition. -/
import Derived.Test.YtemmnocgkgoegaaAm11
import Derived.Laws.MakeOwn
import Derived.Laws.IdiomStrings
namespace Go.AM
open Go

section
variable {P : Program} {B : Nat} {ρ0 : Rho} {h0 : AHeap} {w0 : World} {ρ : Rho} {h : AHeap} {w : World}

/-- an object that the machine has and the world has not yet -/
theorem Stp.ghost (s : Stp P B ρ0 h0 w0 ρ h w) (o : AObj) : Stp P B ρ0 h0 w0 ρ (h.push o) w := by
  have hlt : ∀ i p, ρ i = some p → i < h.next := s.sim.dom
  have hget : ∀ i p, ρ i = some p → (h.push o).get i = h.get i := fun i p hi => AHeap.get_push_lt h o (hlt i p hi)
  refine ⟨s.ext, ⟨s.sim.low, ?_, ?_, ?_, s.sim.tidy.push _⟩, s.os, s.tape, s.output, s.size, s.frame, ?_, ?_, s.fresh, s.loops⟩
  · intro i p hi; have := hlt i p hi; simp; omega
  · intro i o' p hg hp; rw [hget i p hp] at hg; exact s.sim.obj i o' p hg hp
  · intro i j oi oj pi pj hne hi hj hpi hpj hw
    rw [hget i pi hpi] at hi; rw [hget j pj hpj] at hj
    exact s.sim.sep i j oi oj pi pj hne hi hj hpi hpj hw
  · intro i o' p hg hp hw; rw [hget i p hp] at hg; exact s.orig i o' p hg hp hw
  · have := s.next; simp; omega

/-- and now the world has it -/
theorem Stp.fill (s : Stp P B ρ0 h0 w0 ρ h w) {i : Nat} {o : AObj} {b : Obj} {p : Place} (hi : ρ i = none) (h0i : h0.next ≤ i) (hlt : i < h.next) (hg : h.get i = some o) (hp : p.blk = w.heap.size)
    (ho : ObjR P (upd ρ i p) B (w.alloc b) o p) : Stp P B ρ0 h0 w0 (upd ρ i p) h (w.alloc b) := by
  have hx : Ext ρ (upd ρ i p) := Ext.upd p hi
  have hold : ∀ k, k < w.heap.size → (w.alloc b).heap[k]? = w.heap[k]? := fun k hk => RowKit.Below.heap_alloc w b k hk
  refine ⟨s.ext.trans hx, ⟨?_, ?_, ?_, ?_, s.sim.tidy⟩, s.os, s.tape, s.output, ?_, ?_, ?_, s.next, ?_, fun k L h => by
    obtain ⟨L1, h1⟩ := s.loops k L h
    exact ⟨L1, by rw [hold k (Array.getElem?_eq_some_iff.1 h1).1]; exact h1⟩⟩
  · have := s.sim.low; simp; omega
  · intro j q hj
    by_cases e : j = i
    · subst e; exact hlt
    · rw [upd_ne _ _ e] at hj; exact s.sim.dom _ _ hj
  · intro j o' q h1 h2
    by_cases e : j = i
    · subst e; rw [hg] at h1; rw [upd_self] at h2; cases h1; cases h2; exact ho
    · rw [upd_ne _ _ e] at h2
      have := s.sim.obj j o' q h1 h2
      exact (this.same (hold _ this.lt)).mono hx
  · intro j k oj ok pj pk hne h1 h2 h3 h4 h5
    by_cases ej : j = i
    · have ek : k ≠ i := fun e => hne (ej.trans e.symm)
      rw [upd_ne _ _ ek] at h4
      rw [ej, upd_self] at h3; cases h3
      exact .inl (by have := (s.sim.obj k ok pk h2 h4).lt; omega)
    · by_cases ek : k = i
      · rw [upd_ne _ _ ej] at h3
        rw [ek, upd_self] at h4; cases h4
        exact .inl (by have := (s.sim.obj j oj pj h1 h3).lt; omega)
      · rw [upd_ne _ _ ej] at h3; rw [upd_ne _ _ ek] at h4
        exact s.sim.sep j k oj ok pj pk hne h1 h2 h3 h4 h5
  · have := s.size; simp; omega
  · intro k hk hoff
    rw [hold k (Nat.lt_of_lt_of_le hk s.size)]; exact s.frame k hk hoff
  · intro j o' q h1 h2 h3
    by_cases e : j = i
    · subst e; rw [upd_self] at h2; cases h2; exact .inl (by have := s.size; omega)
    · rw [upd_ne _ _ e] at h2; exact s.orig j o' q h1 h2 h3
  · intro j q hj
    by_cases e : j = i
    · subst e; exact .inr h0i
    · rw [upd_ne _ _ e] at hj; exact s.fresh j q hj

/-- a row of cells, new -/
theorem ObjR.newCells {c : List AV} {cc : Array Value} {el : TypeId} {fr : Nat × Nat} {room : Nat} (hs : B ≤ w.heap.size) (hroom : room ≤ cc.size) (hc : c.length ≤ room)
    (hv : ∀ (k : Nat) a, c[k]? = some a → ∃ v, cc[k]? = some v ∧ VR ρ a v) (hfr : room ≤ fr.1 ∨ fr.2 = 0) :
    ObjR P ρ B (w.alloc (.cells cc el fr)) (.cells c true) ⟨w.heap.size, 0, room⟩ := by
  refine ⟨cc, el, fr, by show (w.heap.push _)[w.heap.size]? = _; simp, by simpa using hroom, hc, fun k a hk => by simpa using hv k a hk, fun _ => ⟨hs, fun k _ hk => ?_⟩⟩
  simp at hk
  rcases hfr with h | h <;> omega

theorem VRs.getA {c : List AV} {cc : Array Value} (h : VRs ρ c cc.toList) (k : Nat) (a : AV) (hk : c[k]? = some a) : ∃ v, cc[k]? = some v ∧ VR ρ a v := by
  obtain ⟨v, h1, h2⟩ := h.get hk
  exact ⟨v, by simpa using h1, h2⟩

theorem repl_length (n : Nat) (z : List AV) : (repl n z).length = n * z.length := by
  induction n with
  | zero => simp [repl_zero]
  | succ n ih => rw [repl_succ, List.length_append, ih, Nat.succ_mul]; omega
theorem repl_get (n : Nat) (z : List AV) (k : Nat) (hk : k < n * z.length) : (repl n z)[k]? = z[k % z.length]? := by
  induction n generalizing k with
  | zero => simp at hk
  | succ n ih =>
    rw [repl_succ]
    by_cases h1 : k < z.length
    · rw [List.getElem?_append_left h1, Nat.mod_eq_of_lt h1]
    · rw [List.getElem?_append_right (by omega), ih _ (by rw [Nat.succ_mul] at hk; omega)]
      congr 1
      rw [← Nat.mod_eq_sub_mod (by omega)]

theorem made_run {z : List AV} {zs : Array Value} (hz : VRs ρ z zs.toList) (h1 : 1 ≤ z.length) (n : Nat) : VRs ρ (repl n z) (madeCells zs (n * z.length)).toList := by
  have hl := VRs.length hz
  refine VRs.of_get (by simp [repl_length, madeCells]) fun k x y hx hy => ?_
  have hk : k < n * z.length := by rw [← repl_length]; exact (List.getElem?_eq_some_iff.1 hx).1
  rw [repl_get n z k hk] at hx
  obtain ⟨v, h2, h3⟩ := hz.get hx
  have hlt : k % z.length < zs.size := by rw [← Array.length_toList, ← hl]; exact Nat.mod_lt _ (by omega)
  simp only [Array.length_toList] at hl
  simp [madeCells, hk, ← hl] at hy
  subst hy
  have : zs[k % z.length]? = some v := by simpa using h2
  rw [getElem!_pos zs _ hlt]
  rw [getElem?_pos zs _ hlt] at this
  cases this; exact h3

theorem zeroOf_info {t : TypeId} {z : List AV} (hz : zeroOf P t = some z) : ∃ i zv, P.info? t = some i ∧ i.zero = some zv ∧ ∀ ρ, VRs ρ z zv.cells.toList := by
  unfold zeroOf at hz
  split at hz
  · rename_i i hi
    split at hz
    · rename_i zv hzv
      exact ⟨i, zv, hi, hzv, fun ρ => absVs_sound _ _ hz⟩
    · cases hz
  · cases hz
theorem sizeT_info {t : TypeId} {n : Nat} {i : TypeInfo} (hn : sizeT P t = some n) (hi : P.info? t = some i) : i.size = n := by
  unfold sizeT at hn; rw [hi] at hn; simpa using hn
theorem bytesT_info {t : TypeId} {n : Nat} {i : TypeInfo} (hn : bytesT P t = some n) (hi : P.info? t = some i) : i.bytes = n := by
  unfold bytesT at hn; rw [hi] at hn; simpa using hn

theorem fillsS_eq (sz : Nat) (tm : List AV) (ps : List (Nat × AOpd)) : ∀ z, fillsS sz z ps tm = fills z (ps.map fun p => (p.1 * sz, sz, p.2)) tm := by
  induction ps with
  | nil => intro z; rfl
  | cons p r ih =>
    intro z; obtain ⟨i, x⟩ := p
    simp only [fillsS, List.map_cons, fills, ih]

theorem ofBytes_length (l : List Nat) : (ofBytes l).length = l.length := by induction l <;> simp [ofBytes, *]
theorem ofBytes_get (l : List Nat) (k : Nat) : (ofBytes l)[k]? = (l[k]?).map fun b => AV.int .u8 b := by
  induction l generalizing k with
  | nil => simp [ofBytes]
  | cons b r ih => cases k <;> simp [ofBytes, ih]

theorem le_grownCap (need old : Nat) (e : TypeId) : need ≤ grownCap w need old e := by
  unfold grownCap
  simp only [Question.cut]
  omega

variable {tm : List AV} {a : Act} {o : Oper}

/-- what is said of an operation that makes object i -/
abbrev AS (P : Program) (B : Nat) (ρ0 : Rho) (h0 : AHeap) (w0 : World) (ρ : Rho) (h : AHeap) (w : World) (a : Act) (o : Oper) (i : Nat) (av : AV) : Prop :=
  ∃ v p w', (execOp a.eval o).run P w = .ok (.value v) w' ∧ Stp P B ρ0 h0 w0 (upd ρ i p) h w' ∧ VR (upd ρ i p) av v

theorem a_sound (s : Stp P B ρ0 h0 w0 ρ h w) (ht : TR ρ tm a.tmps) {ao : AOp} (htr : trOp P o.op = some ao) {hh : AHeap} {b : AObj} {av : AV} (he : evalA ao tm hh = some (b, av))
    (hi : ρ hh.next = none) (h0i : h0.next ≤ hh.next) (hlt : hh.next < h.next) (hg : h.get hh.next = some b) : AS P B ρ0 h0 w0 ρ h w a o hh.next av := by
  have hx : ∀ p, Ext ρ (upd ρ hh.next p) := fun p => Ext.upd p hi
  cases hop : o.op with
  | alloc t =>
    rw [hop] at htr; simp only [trOp] at htr
    split at htr <;> cases htr
    rename_i z hz
    simp only [evalA, Option.some.injEq, Prod.mk.injEq] at he
    obtain ⟨rfl, rfl⟩ := he
    obtain ⟨zv, h1, h2⟩ := zeroOf_run (P := P) hz ρ w
    refine ⟨.pointer (some ⟨w.heap.size, 0 + 0, none⟩), ⟨w.heap.size, 0, zv.cells.size⟩, w.alloc (.cells zv.cells t), by simp [execOp, hop, Instr.alloc, h1, newVar, newRow], s.fill hi h0i hlt hg rfl (ObjR.newCells s.sim.low (Nat.le_refl _) ?_ ?_ (.inr rfl)), .ptr (p := ⟨w.heap.size, 0, _⟩) (upd_self _ _ _)⟩
    · rw [VRs.length h2, Array.length_toList]; exact Nat.le_refl _
    · exact fun k a hk => VRs.getA (h2.mono (hx _)) k a hk
  | box t x =>
    rw [hop] at htr; simp only [trOp] at htr
    split at htr <;> cases htr
    rename_i ax hax
    simp only [evalA, Option.some.injEq, Prod.mk.injEq] at he
    obtain ⟨rfl, rfl⟩ := he
    have h2 := (opd_sound ht hax).cells
    refine ⟨.pointer (some ⟨w.heap.size, 0 + 0, none⟩), ⟨w.heap.size, 0, (a.eval x).cells.size⟩, w.alloc (.cells (a.eval x).cells t), by simp [execOp, hop, Instr.box, newVar, newRow], s.fill hi h0i hlt hg rfl (ObjR.newCells s.sim.low (Nat.le_refl _) ?_ ?_ (.inr rfl)), .ptr (p := ⟨w.heap.size, 0, _⟩) (upd_self _ _ _)⟩
    · rw [VRs.length h2, Array.length_toList]; exact Nat.le_refl _
    · exact fun k a hk => VRs.getA (h2.mono (hx _)) k a hk
  | buildSlice t n ps =>
    rw [hop] at htr; simp only [trOp] at htr
    split at htr <;> first | (cases htr; done) | skip
    rename_i e l hu hl
    split at htr <;> first | (cases htr; done) | skip
    rename_i sz z hsz hz
    split at htr <;> cases htr
    rename_i hcond
    obtain ⟨c1, c2, c3⟩ := hcond
    simp only [evalA] at he
    cases hf : fillsS sz (repl n z) l tm with
    | none => rw [hf] at he; cases he
    | some c =>
      rw [hf] at he; cases he
      obtain ⟨i, zv, hinf, hzv, hzr⟩ := zeroOf_info hz
      have hisz := sizeT_info hsz hinf
      rw [fillsS_eq] at hf
      obtain ⟨g1, g2⟩ := trParts_spec hl
      have hbase : VRs ρ (repl n z) (madeCells (if n * sz = 0 then #[] else zv.cells) (n * sz)).toList := by
        by_cases h0 : n * sz = 0
        · have : n = 0 := by rcases Nat.mul_eq_zero.1 h0 with h | h <;> omega
          subst this; simp [repl_zero, madeCells]; exact .nil
        · rw [if_neg h0]
          have := made_run (hzr ρ) (by omega) n
          rw [c3] at this; exact this
      obtain ⟨cs, f1, f2⟩ := fills_run ht (place := fun i => some (i * sz, sz)) ps.toList _ (repl n z) c _ (fun k i x hk => by
        obtain ⟨ax, e1, e2⟩ := g2 k i x hk
        exact ⟨i * sz, sz, ax, by simp [e1], rfl, e2⟩) (by simp [g1]) hbase hf
      have hrun : (execOp a.eval o).run P w = .ok (.value (.slice (some ⟨w.heap.size, 0, none⟩) n n)) (w.alloc (.cells cs e)) := by
        have hpl : (ps.map fun (p : Nat × Operand) => (p.1, a.eval p.2)).toList = ps.toList.map fun p => (p.1, a.eval p.2) := Array.toList_map ..
        have hfill : Instr.fill (fun i => some (i * sz, sz)) (madeCells (if n * sz = 0 then #[] else zv.cells) (n * sz)) (ps.map fun (p : Nat × Operand) => (p.1, a.eval p.2)).toList = some cs := by rw [hpl]; exact f1
        have hno : ¬ (n * sz > 16777216) := by omega
        have hsrun : (sizeOf e).run P w = .ok sz w := by simp [sizeOf, typeInfo, hinf, hisz]
        simp only [execOp, hop, Instr.buildSlice, Sem.run_bind, run_underlying hu, Result.andThen_ok, hsrun]
        rw [show (2 : Nat) ^ 24 = 16777216 from rfl]
        simp only [madeCells] at hfill
        rw [if_neg hno]
        have hz1 : n * sz ≠ 0 → (zeroValue e).run P w = .ok zv w := fun _ => by simp [zeroValue, typeInfo, hinf, hzv]
        by_cases h0 : n * sz = 0
        · rw [if_pos h0] at hfill ⊢
          simp only [Sem.run_bind, Sem.run_pure, Result.andThen_ok, hfill]
          simp [newRow]
        · rw [if_neg h0] at hfill ⊢
          simp only [Sem.run_bind, Sem.run_pure, Result.andThen_ok, hz1 h0, hfill]
          simp [newRow]
      have hlen : c.length = n * sz := by
        have e1 := VRs.length f2
        have e2 : cs.size = n * sz := by
          have : ∀ (ps : List (Nat × Value)) (cc cs : Array Value), Instr.fill (fun i => some (i * sz, sz)) cc ps = some cs → cs.size = cc.size := by
            intro ps
            induction ps with
            | nil => intro cc cs h; simp [Instr.fill] at h; rw [h]
            | cons p r ih =>
              intro cc cs h
              obtain ⟨i, v⟩ := p
              simp only [Instr.fill] at h
              split at h
              · cases h
              · rw [ih _ _ h]
                have hfold : ∀ (us : List (Value × Nat)) (cc : Array Value), (us.foldl (fun cs (p : Value × Nat) => cs.setIfInBounds (i * sz + p.2) p.1) cc).size = cc.size := by
                  intro us; induction us with
                  | nil => intro cc; rfl
                  | cons u us ih => intro cc; simp [List.foldl_cons, ih]
                rw [← Array.foldl_toList]
                exact hfold _ _
          rw [this _ _ _ f1]; simp [madeCells]
        rw [e1, Array.length_toList, e2]
      refine ⟨_, ⟨w.heap.size, 0, cs.size⟩, _, hrun, s.fill hi h0i hlt hg rfl (ObjR.newCells s.sim.low (Nat.le_refl _) ?_ ?_ (.inr rfl)), .slx (p := ⟨w.heap.size, 0, cs.size⟩) (upd_self _ _ _) (Nat.le_refl _)⟩
      · rw [VRs.length f2, Array.length_toList]; exact Nat.le_refl _
      · exact fun k a hk => VRs.getA (f2.mono (hx _)) k a hk
  | makeSlice t lx cx =>
    rw [hop] at htr; simp only [trOp] at htr
    split at htr <;> first | (cases htr; done) | skip
    rename_i e al ac hu hal hac
    split at htr <;> first | (cases htr; done) | skip
    rename_i sz by' z hsz hby hz
    split at htr <;> cases htr
    rename_i hcond
    obtain ⟨c1, c2, c3⟩ := hcond
    simp only [evalA] at he
    have hv1 := opd_sound ht hal
    have hv2 := opd_sound ht hac
    generalize hvl : a.eval lx = vl at hv1
    generalize hvc : a.eval cx = vc at hv2
    split at he <;> first | (cases he; done) | skip
    rename_i kl l kc c e1 e2
    rw [e1] at hv1; rw [e2] at hv2; cases hv1; cases hv2
    split at he <;> cases he
    rename_i hb
    obtain ⟨b1, b2, b3⟩ := hb
    obtain ⟨i, zv, hinf, hzv, hzr⟩ := zeroOf_info hz
    have hisz := sizeT_info hsz hinf
    have hiby := bytesT_info hby hinf
    have hcb : c ≤ c * by' := by
      have : c * 1 ≤ c * (by' : Int) := Int.mul_le_mul_of_nonneg_left (by omega) (by omega)
      omega
    have hr := run_make (P := P) w t e i zv hu hinf hzv kl kc l c b1 b2 (by rw [hiby, Int.mul_comm]; omega) (by omega)
    rw [hisz] at hr
    have hm := made_run (hzr ρ) (by omega) c.toNat
    rw [c3] at hm
    refine ⟨.slice (some ⟨w.heap.size, 0 + 0, none⟩) l.toNat c.toNat, ⟨w.heap.size, 0, c.toNat * sz⟩, w.alloc (.cells (madeCells zv.cells (c.toNat * sz)) e), by simp [execOp, hop, hvl, hvc, hr], s.fill hi h0i hlt hg rfl (ObjR.newCells s.sim.low (by simp [size_madeCells]) ?_ ?_ (.inr rfl)), .slx (p := ⟨w.heap.size, 0, _⟩) (upd_self _ _ _) (by omega)⟩
    · rw [repl_length, c3]; exact Nat.le_refl _
    · exact fun k a hk => VRs.getA (hm.mono (hx _)) k a hk
  | makeMap t r =>
    rw [hop] at htr
    cases r with
    | some _ => simp [trOp] at htr
    | none =>
      simp only [trOp, Option.some.injEq] at htr; subst htr
      simp only [evalA, Option.some.injEq, Prod.mk.injEq] at he
      obtain ⟨rfl, rfl⟩ := he
      refine ⟨.map (some w.heap.size), ⟨w.heap.size, 0, 1⟩, w.alloc (.map #[] 0), by simp [execOp, hop, Instr.makeMap], s.fill hi h0i hlt hg rfl ⟨rfl, rfl, s.sim.low, #[], 0, by show (w.heap.push _)[w.heap.size]? = _; simp, .nil⟩, .map (p := ⟨w.heap.size, 0, 1⟩) (upd_self _ _ _)⟩
  | convert sr d x =>
    rw [hop] at htr; simp only [trOp] at htr
    split at htr
    · cases htr; cases he
    · cases htr; cases he
    · rename_i e ax h1 h2 h3
      split at htr <;> cases htr
      rename_i he8
      simp only [evalA] at he
      have hv := opd_sound ht h3
      generalize hvx : a.eval x = vx at hv
      split at he <;> cases he
      rename_i l heq
      rw [heq] at hv
      cases hv with
      | str hl =>
        rename_i bs
        have hr := run_bytes_of_string (P := P) w sr d e bs h1 h2 he8
        have hcap := le_grownCap (w := w) bs.size 0 e
        have hll : l.length = bs.size := by rw [← hl, List.length_map]; rfl
        have hrow : (bytesRow bs (grownCap w bs.size 0 e)).size = grownCap w bs.size 0 e := by
          simp only [bytesRow, Array.size_append, Array.size_map, Array.size_replicate]
          have : bs.data.size = bs.size := rfl
          omega
        have s' : Stp P B ρ0 h0 w0 ρ h w.drew := s.drew _
        refine ⟨.slice (some ⟨w.drew.heap.size, 0 + 0, none⟩) bs.size (grownCap w bs.size 0 e), ⟨w.drew.heap.size, 0, grownCap w bs.size 0 e⟩, _, by simp [execOp, hop, hvx, hr]; rfl, s'.fill hi h0i hlt hg rfl (ObjR.newCells s'.sim.low (by rw [hrow]; exact Nat.le_refl _) ?_ ?_ (.inl (by rw [hrow]; exact Nat.le_refl _))), ?_⟩
        · rw [ofBytes_length, hll]; exact hcap
        · intro k av hk
          rw [ofBytes_get, ← hl, List.getElem?_map] at hk
          cases hg' : bs.data.toList[k]? with
          | none => rw [hg'] at hk; cases hk
          | some u =>
            rw [hg'] at hk; simp at hk; subst hk
            have hlt' : k < bs.data.size := by have := (List.getElem?_eq_some_iff.1 hg').1; simpa using this
            refine ⟨.int .u8 u.toNat, ?_, .int _ _⟩
            have hu : bs.data[k]? = some u := by simpa using hg'
            simp only [bytesRow]
            rw [Array.getElem?_append_left (by simpa using hlt')]
            simp [hu]
        · rw [hll]
          refine .slo (p := ⟨w.drew.heap.size, 0, grownCap w bs.size 0 e⟩) (upd_self _ _ _) hcap ?_
          show 0 + grownCap w bs.size 0 e * 1 = grownCap w bs.size 0 e
          omega
    · split at htr <;> cases htr
      cases he
    · cases htr
  | call c =>
    rw [hop] at htr
    exfalso
    have : ao.cls ≠ .a := by
      simp only [trOp, trCall] at htr
      split at htr <;> first | (cases htr; done) | skip
      split at htr
      · split at htr <;> cases htr; simp [AOp.cls]
      · cases htr
      · split at htr <;> first | (cases htr; done) | skip
        split at htr <;> first | (cases htr; done) | skip
        all_goals (split at htr <;> first | (cases htr; done) | skip)
        all_goals (split at htr <;> cases htr)
        all_goals simp [AOp.cls]
      · split at htr <;> first | (cases htr; done) | skip
        split at htr <;> first | (cases htr; done) | skip
        split at htr <;> first | (cases htr; done) | skip
        split at htr <;> cases htr
        simp [AOp.cls]
      · split at htr <;> first | (cases htr; done) | skip
        split at htr <;> first | (cases htr; simp [AOp.cls]; done) | (cases htr; done) | skip
        split at htr <;> cases htr; simp [AOp.cls]
      · cases htr; simp [AOp.cls]
      · cases htr; simp [AOp.cls]
      · cases htr
    cases ao <;> first | (cases he; done) | (exact this rfl)
  | makeFunc fn f c =>
    rw [hop] at htr
    cases fn <;> simp only [trOp] at htr <;> first | (cases htr; done) | skip
    split at htr <;> cases htr
    cases he
  | _ =>
    rw [hop] at htr
    simp only [trOp] at htr
    first
      | (cases htr; done)
      | ((repeat' (split at htr)) <;> first | (cases htr; done) | (cases htr; cases he; done))

end
end Go.AM
