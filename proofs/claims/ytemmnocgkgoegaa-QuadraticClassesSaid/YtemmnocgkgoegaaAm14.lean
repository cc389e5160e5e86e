/- The operations that turn the heap, calls aside: joined. No condition. -/
import Derived.Test.YtemmnocgkgoegaaAm13
namespace Go.AM
open Go

section
variable {P : Program} {B : Nat} {ρ : Rho} {h : AHeap} {w : World} {tm : List AV} {a : Act} {o : Oper}

/-- what is said of an operation that turns the heap -/
abbrev ES (P : Program) (B : Nat) (ρ : Rho) (h : AHeap) (w : World) (a : Act) (o : Oper) (av : AV) (h' : AHeap) : Prop :=
  ∃ nx ρ' w', (execOp a.eval o).run P w = .ok nx w' ∧ ((∃ v, nx = .value v ∧ VR ρ' av v) ∨ (nx = .skip ∧ av = aundef)) ∧ Stp P B ρ h w ρ' h' w'

theorem zeroCells_size (z : Array Value) (n : Nat) : (Builtin.zeroCells z n).size = n * z.size := by simp [Builtin.zeroCells]

theorem grow_obj {old new : List AV} {olds news rest : Array Value} (h1 : VRs ρ old olds.toList) (h2 : VRs ρ new news.toList) (k : Nat) (a : AV) (hk : (old ++ new)[k]? = some a) :
    ∃ v, (olds ++ news ++ rest)[k]? = some v ∧ VR ρ a v := by
  have := (VRs.append h1 h2).get hk
  obtain ⟨v, e1, e2⟩ := this
  refine ⟨v, ?_, e2⟩
  have e1' : (olds ++ news)[k]? = some v := by
    rw [← Array.getElem?_toList, Array.toList_append]; exact e1
  have hlt : k < (olds ++ news).size := (Array.getElem?_eq_some_iff.1 e1').1
  rw [Array.getElem?_append_left hlt]; exact e1'

theorem e_append (hs : Sim P ρ h B w) {ats : Array TypeId} {ty t u e : TypeId} {du : TypeDesc} (h0 : ats[0]? = some t) (h1 : ats[1]? = some u) (ht : P.underlying t = some (.slice e)) (hu : P.underlying u = some du) (hdu : ∀ k, du ≠ .int k)
    {sz by' : Nat} {z : List AV} (hsz : sizeT P e = some sz) (hby : bytesT P e = some by') (hz : zeroOf P e = some z) (c1 : 1 ≤ sz) (c2 : 1 ≤ by') (c3 : z.length = sz)
    {as ax : AOpd} {vs vx : Value} (hvs : VR ρ (ev tm as) vs) (hvx : VR ρ (ev tm ax) vx) {call : CallT} {av : AV} {h' : AHeap} (he : evalE (.append sz by' z as ax) call tm h = some (av, h')) :
    ∃ v ρ' w', (Builtin.append_ ats ty #[vs, vx]).run P w = .ok v w' ∧ VR ρ' av v ∧ Stp P B ρ h w ρ' h' w' := by
  obtain ⟨i, zv, hinf, hzv, hzr⟩ := zeroOf_info hz
  have hisz := sizeT_info hsz hinf
  have hiby := bytesT_info hby hinf
  have hzsz : zv.cells.size = sz := by rw [← Array.length_toList, ← VRs.length (hzr ρ), c3]
  simp only [evalE] at he
  split at he <;> first | (cases he; done) | skip
  rename_i n new hsrc
  obtain ⟨hn, hnl, hnall, us, hus, hfirst⟩ := src_run hs hvx hsrc
  have hone := hus.one hnall
  have hul := VRs.length hus
  have hall : us.take (n * sz) = us := List.take_of_length_le (by omega)
  have hfw : ∀ w' : World, w'.heap = w.heap → (Builtin.firstCells i.size n vx).run P w' = .ok us.toArray w' := fun w' hw => by
    have := hfirst n (Nat.le_refl _) w' hw
    rw [hall] at this; rw [hisz]; exact this
  -- a new row
  have grow : ∀ (h2 : AHeap), Stp P B ρ h w ρ h2 w → h2.next = h.next → ∀ (base : Option Addr) (sLen sCap : Nat) (old : List AV) (olds : List Value), VRs ρ old olds → olds.length = sLen * sz → sCap < sLen + n → (sLen + n) * by' ≤ 140737488355328 →
      (Builtin.firstCells sz sLen (.slice base sLen sCap)).run P w.drew = .ok olds.toArray w.drew →
      ∃ v ρ' w', (Builtin.append_ ats ty #[.slice base sLen sCap, vx]).run P w = .ok v w' ∧ VR ρ' (.slice h.next 0 (sLen + n) (.opn sz)) v ∧ Stp P B ρ h w ρ' (h2.push (.cells (old ++ new) true)) w' := by
    intro h2 s2 hnx base sLen sCap old olds ho hol hlt hb hfo
    have hr := append_grow (P := P) (w := w) (ty := ty) h0 h1 ht hu hdu hinf hzv (base := base) (sLen := sLen) (sCap := sCap) hn hlt (by omega) (by rw [hiby]; exact hb) (by rw [hisz]; exact hfo) (hfw w.drew rfl)
    have hcap := le_grownCap (w := w) (sLen + n) sCap e
    have s3 : Stp P B ρ h w ρ h2 w.drew := s2.drew _
    have hsize : (olds.toArray ++ us.toArray ++ Builtin.zeroCells zv.cells (grownCap w (sLen + n) sCap e - (sLen + n))).size = grownCap w (sLen + n) sCap e * sz := by
      simp only [Array.size_append, List.size_toArray, zeroCells_size, hzsz, hol]
      rw [← hul, hnl, ← Nat.add_mul, ← Nat.add_mul]
      congr 1
      omega
    have s4 := s3.sim.newRow (c := old ++ new) (cc := olds.toArray ++ us.toArray ++ Builtin.zeroCells zv.cells (grownCap w (sLen + n) sCap e - (sLen + n))) (el := e) (room := grownCap w (sLen + n) sCap e * sz)
      (by rw [hsize]; exact Nat.le_refl _) (by
        rw [List.length_append, VRs.length ho, hol, hnl, ← Nat.add_mul]; exact Nat.mul_le_mul_right _ hcap) (fun k a hk => grow_obj (by simpa using ho) (by simpa using hus) k a hk)
    refine ⟨_, _, _, hr, ?_, s3.trans s4⟩
    rw [hnx]
    refine .slo (p := ⟨w.drew.heap.size, 0, grownCap w (sLen + n) sCap e * sz⟩) (upd_self _ _ _) hcap ?_
    show 0 + grownCap w (sLen + n) sCap e * sz = grownCap w (sLen + n) sCap e * sz
    omega
  -- in place
  have inpl : ∀ (a : Addr) (sLen sCap : Nat) (w' : World), sLen + n ≤ sCap → (storeCells (a.add (sLen * sz)) us).run P w = .ok () w' →
      (Builtin.append_ ats ty #[.slice (some a) sLen sCap, vx]).run P w = .ok (.slice (some a) (sLen + n) sCap) w' := by
    intro a sLen sCap w' hle hst
    exact append_in h0 h1 ht hu hdu hinf hn hle (hfw w rfl) (by simpa [hisz] using hst)
  have readOld : ∀ {j oo len : Nat} {cs old : List AV} {r : Bool} {p : Place} {c : Nat}, h.get j = some (.cells cs r) → ρ j = some p → cut cs oo (len * sz) = some old →
      ∃ olds : List Value, VRs ρ old olds ∧ olds.length = len * sz ∧ (Builtin.firstCells sz len (.slice (some ⟨p.blk, p.base + oo, none⟩) len c)).run P w.drew = .ok olds.toArray w.drew := by
    intro j oo len cs old r p c hg hp hcut
    obtain ⟨olds, k1, k2, k3⟩ := read_cut hs hg hp hcut
    refine ⟨olds, k2, k1, ?_⟩
    have := run_loadCells_of (P := P) (w := w.drew) (b := p.blk) (o := p.base + oo) (vs := olds) (fun j v hj => k3 j v hj)
    rw [k1] at this
    exact this
  generalize hsv : ev tm as = sv at hvs he
  cases sv with
  | nils =>
    cases hvs
    simp only at he
    split at he
    · rename_i hn0; subst hn0
      cases he
      exact ⟨_, ρ, w, append_in h0 h1 ht hu hdu hinf (base := none) hn (by omega) (hfw w rfl) (by simp), .nils, Stp.refl hs⟩
    · rename_i hn0
      split at he <;> cases he
      rename_i hb
      have := grow h (Stp.refl hs) rfl none 0 0 [] [] .nil (by simp) (by omega) (by simpa using hb) (by simp [Builtin.firstCells])
      simpa using this
  | slice i' oo len cp =>
    cases cp with
    | exact c =>
      cases hvs with
      | slx hp hc =>
        rename_i p
        simp only at he
        split at he
        · rename_i hle
          split at he
          · rename_i hn0; subst hn0
            cases he
            have hus0 : us = [] := List.eq_nil_of_length_eq_zero (by omega)
            refine ⟨_, ρ, w, inpl _ len c w hle (by rw [hus0]; simp [storeCells]), .slx hp hc, Stp.refl hs⟩
          · split at he <;> first | (cases he; done) | skip
            rename_i cs hown
            split at he <;> cases he
            rename_i cs' hlay
            obtain ⟨w', q1, q2⟩ := putLay hs (ownOf_some hown) hp hlay hus hone
            refine ⟨_, ρ, w', inpl _ len c w' hle (by rw [Addr.add_plain, Nat.add_assoc]; exact q1), .slx hp (by omega), q2⟩
        · rename_i hle
          split at he <;> first | (cases he; done) | skip
          rename_i hb
          split at he <;> first | (cases he; done) | skip
          rename_i cs hcs
          split at he <;> cases he
          rename_i old hcut
          obtain ⟨r, hg⟩ := cellsOf_some hcs
          obtain ⟨olds, k1, k2, k3⟩ := readOld (c := c) hg hp hcut
          exact grow h (Stp.refl hs) rfl _ len c old olds k1 k2 (by omega) hb k3
    | opn zz =>
      simp only at he
      split at he <;> first | (cases he; done) | skip
      rename_i hzb
      obtain ⟨rfl, hb⟩ := hzb
      split at he <;> first | (cases he; done) | skip
      rename_i cs hown
      have hg := ownOf_some hown
      split at he
      · rename_i hin
        split at he <;> cases he
        rename_i cs' hlay
        cases hvs with
        | slo hp hc hr =>
          rename_i c p
          obtain ⟨w', q1, q2⟩ := putLay hs hg hp hlay hus hone
          have hroom : cs.length ≤ p.room := by obtain ⟨_, _, _, _, _, h3, _⟩ := hs.obj _ _ p hg hp; exact h3
          have hle : len + n ≤ c := by
            have : (len + n) * zz ≤ c * zz := by omega
            exact Nat.le_of_mul_le_mul_right this c1
          exact ⟨_, ρ, w', inpl _ len c w' hle (by rw [Addr.add_plain, Nat.add_assoc]; exact q1), .slo hp hle hr, q2⟩
        | sle ad hp hr =>
          rename_i p
          have hroom : cs.length ≤ p.room := by obtain ⟨_, _, _, _, _, h3, _⟩ := hs.obj _ _ p hg hp; exact h3
          have hn0 : n = 0 := by
            have : n * zz = 0 := by rw [Nat.zero_add] at hin; omega
            rcases Nat.mul_eq_zero.1 this with h | h <;> omega
          subst hn0
          have hus0 : us = [] := List.eq_nil_of_length_eq_zero (by omega)
          have hnew0 : new = [] := List.eq_nil_of_length_eq_zero (by omega)
          obtain ⟨w', q1, q2⟩ := putLay hs hg hp hlay hus hone
          have hw' : w' = w := by rw [hus0] at q1; simp [storeCells] at q1; exact q1.symm
          subst hw'
          exact ⟨_, ρ, w', inpl ad 0 0 w' (by omega) (by rw [hus0]; simp [storeCells]), .sle ad hp hr, q2⟩
      · rename_i hin
        split at he <;> cases he
        rename_i hend
        have hdrop : VR ρ (.slice i' oo len (.opn zz)) vs → cut cs oo (len * zz) = some (drops cs oo) := by
          intro _
          rw [cut_some (by omega), drops_eq, List.take_of_length_le (by simp; omega)]
        cases hvs with
        | slo hp hc hr =>
          rename_i c p
          by_cases hle : len + n ≤ c
          · have hroom : cs.length + new.length ≤ p.room := by
              have : (len + n) * zz ≤ c * zz := Nat.mul_le_mul_right _ hle
              rw [Nat.add_mul] at this
              omega
            obtain ⟨w', q1, q2⟩ := extendLay hs hg hp (o := oo) (by omega) hroom hus hone
            refine ⟨_, _, w', inpl _ len c w' hle (by rw [Addr.add_plain, Nat.add_assoc, hend]; exact q1), ?_, q2⟩
            have := VR.slo (ρ := upd ρ h.next ⟨p.blk, p.base + oo, p.room - oo⟩) (i := h.next) (off := 0) (n := len + n) (sz := zz) (c := c) (upd_self _ _ _) hle (by show 0 + c * zz = p.room - oo; omega)
            simpa using this
          · obtain ⟨olds, k1, k2, k3⟩ := readOld (c := c) hg hp (hdrop (.slo hp hc hr))
            exact grow (h.del i') (Stp.del hs i') rfl _ len c _ olds k1 k2 (by omega) hb k3
        | sle ad hp hr =>
          rename_i p
          have hn0 : 0 < n := by
            rcases Nat.eq_zero_or_pos n with h | h
            · subst h; simp at hin hend; omega
            · exact h
          have hd0 : drops cs oo = [] := by rw [drops_eq]; exact List.drop_eq_nil_of_le (by omega)
          rw [hd0]
          exact grow (h.del i') (Stp.del hs i') rfl (some ad) 0 0 [] [] .nil (by simp) (by omega) hb (by simp [Builtin.firstCells, loadCells, loadCellsFrom, Sem.run_pure])
  | _ => simp at he

theorem e_copy (hs : Sim P ρ h B w) {ats : Array TypeId} {ty t e : TypeId} (h0 : ats[0]? = some t) (ht : P.underlying t = some (.slice e)) {sz : Nat} (hsz : sizeT P e = some sz) (_c1 : 1 ≤ sz)
    {ad ax : AOpd} {vd vx : Value} (hvd : VR ρ (ev tm ad) vd) (hvx : VR ρ (ev tm ax) vx) {call : CallT} {av : AV} {h' : AHeap} (he : evalE (.copy sz ad ax) call tm h = some (av, h')) :
    ∃ v ρ' w', (Builtin.copy_ ats ty #[vd, vx]).run P w = .ok v w' ∧ VR ρ' av v ∧ Stp P B ρ h w ρ' h' w' := by
  have hsrun := sizeT_run (P := P) (w := w) hsz
  simp only [evalE] at he
  cases hsrc : srcOf sz (ev tm ax) h with
  | none => rw [hsrc] at he; split at he <;> simp_all
  | some p =>
    obtain ⟨n, new⟩ := p
    rw [hsrc] at he
    obtain ⟨hn, hnl, hnall, us, hus, hfirst⟩ := src_run hs hvx hsrc
    have hul := VRs.length hus
    have run0 : ∀ (base : Option Addr) (len cap : Nat), min n len = 0 → (Builtin.copy_ ats ty #[.slice base len cap, vx]).run P w = .ok (goInt 0) w := by
      intro base len cap hm
      have hf := hfirst 0 (Nat.zero_le _) w rfl
      have hm' : Nat.min n len = 0 := hm
      cases base <;> simp [Builtin.copy_, h0, run_underlying ht, hn, hm', hsrun, hf, storeCells]
    generalize hdv : ev tm ad = dv at hvd he
    cases dv with
    | nils =>
      cases hvd
      simp at he
      obtain ⟨rfl, rfl⟩ := he
      exact ⟨_, ρ, w, run0 none 0 0 (Nat.min_zero _), .int _ _, Stp.refl hs⟩
    | slice i oo len cp =>
      simp only at he
      split at he
      · rename_i hm
        cases he
        cases hvd <;> exact ⟨_, ρ, w, run0 _ _ _ hm, .int _ _, Stp.refl hs⟩
      · rename_i hm
        split at he <;> first | (cases he; done) | skip
        rename_i cs new' hown hcut
        split at he <;> cases he
        rename_i cs' hlay
        have main : ∀ (p : Place) (cap : Nat), ρ i = some p → ∃ v ρ' w', (Builtin.copy_ ats ty #[.slice (some ⟨p.blk, p.base + oo, none⟩) len cap, vx]).run P w = .ok v w' ∧ VR ρ' (.int .i64 (min n len : Nat)) v ∧ Stp P B ρ h w ρ' (h.set i (.cells cs' true)) w' := by
          intro p cap hp
          obtain ⟨q1, q2⟩ := cut_eq hcut
          simp only [List.drop_zero] at q2
          have hnv : VRs ρ new' (us.take (min n len * sz)) := by rw [q2]; exact hus.take _
          have hone : ∀ v ∈ us.take (min n len * sz), v.oneCell' = true := fun v hv => hus.one hnall v (List.mem_of_mem_take hv)
          obtain ⟨w', k1, k2⟩ := putLay hs (ownOf_some hown) hp hlay hnv hone
          refine ⟨goInt ((min n len : Nat) : Int), ρ, w', ?_, .int _ _, k2⟩
          have hf := hfirst (min n len) (Nat.min_le_left _ _) w rfl
          have e1 : Nat.min n len = min n len := rfl
          simp [Builtin.copy_, h0, run_underlying ht, hn, e1, hsrun, hf, k1]
        cases hvd with
        | slx hp _ => exact main _ _ hp
        | slo hp _ _ => exact main _ _ hp
        | sle a hp _ => exact absurd (Nat.min_zero _) hm
    | _ => simp at he

theorem e_store (hs : Sim P ρ h B w) {t : TypeId} {n : Nat} (hn : sizeT P t = some n) {aa ax : AOpd} {va vx : Value} (hva : VR ρ (ev tm aa) va) (hvx : VR ρ (ev tm ax) vx) {call : CallT} {av : AV} {h' : AHeap}
    (he : evalE (.store n aa ax) call tm h = some (av, h')) : ∃ w', (Instr.storeAt t va vx).run P w = .ok () w' ∧ av = aundef ∧ Stp P B ρ h w ρ h' w' := by
  simp only [evalE] at he
  split at he <;> first | (cases he; done) | skip
  rename_i i oo heq
  rw [heq] at hva
  split at he <;> first | (cases he; done) | skip
  rename_i c hown
  split at he <;> first | (cases he; done) | skip
  rename_i hc
  split at he <;> cases he
  rename_i c' hlay
  cases hva with
  | ptr hp =>
    have hcells := hvx.cells
    obtain ⟨w', k1, k2⟩ := putLay hs (ownOf_some hown) hp hlay hcells (hcells.one hc.2)
    refine ⟨w', ?_, rfl, k2⟩
    have hl := VRs.length hcells
    rw [hc.1, Array.length_toList] at hl
    simp [Instr.storeAt, Instr.sureAddr, storeVar, sizeT_run hn, ← hl, k1]

theorem setAt_run : ∀ {es : List (AV × AV)} {ms : List MapEntry} {j : Nat} {k v : AV} {f : MapEntry → MapEntry}, EsR ρ es ms → j < es.length → (∀ e, VR ρ k (f e).key ∧ VR ρ v (f e).val) → EsR ρ (setAt es j k v) (ms.modify j f)
  | [], _, j, k, v, f, _, hj, _ => by simp at hj
  | e :: es, ms, j, k, v, f, he, hj, hf => by
    cases he with
    | cons hk hv hs =>
      cases j with
      | zero => simp only [setAt, List.modify_zero_cons]; exact .cons (hf _).1 (hf _).2 hs
      | succ j => simp only [setAt, List.modify_succ_cons]; exact .cons hk hv (setAt_run hs (by simpa using hj) hf)

theorem findKey_at {ks : KeyK} {k : AV} : ∀ {es : List (AV × AV)} {n j : Nat} {v : AV}, findKey ks k es n = some (some (j, v)) → n ≤ j ∧ ∃ k', es[j - n]? = some (k', v) ∧ keyEq ks k k' = some true
  | [], n, j, v, hf => by simp [findKey] at hf
  | (k', v') :: es, n, j, v, hf => by
    simp only [findKey] at hf
    split at hf
    · rename_i h; cases hf; exact ⟨Nat.le_refl _, k', by simp, h⟩
    · obtain ⟨h1, k2, h2, h3⟩ := findKey_at hf
      exact ⟨by omega, k2, by rw [show j - n = (j - (n + 1)) + 1 by omega]; simpa using h2, h3⟩
    · cases hf

theorem EsR.get {es : List (AV × AV)} {ms : List MapEntry} (he : EsR ρ es ms) : ∀ {j : Nat} {k v : AV}, es[j]? = some (k, v) → ∃ e, ms[j]? = some e ∧ VR ρ k e.key ∧ VR ρ v e.val := by
  induction he with
  | nil => intro j k v h; simp at h
  | cons hk hv hs ih =>
    intro j k v h
    cases j with
    | zero => simp at h; obtain ⟨rfl, rfl⟩ := h; exact ⟨_, rfl, hk, hv⟩
    | succ j => simpa using ih (by simpa using h)
theorem EsR.push {es : List (AV × AV)} {ms : List MapEntry} (he : EsR ρ es ms) {k v : AV} {e : MapEntry} (hk : VR ρ k e.key) (hv : VR ρ v e.val) : EsR ρ (es ++ [(k, v)]) (ms ++ [e]) := by
  induction he with
  | nil => exact .cons hk hv .nil
  | cons hk' hv' _ ih => exact .cons hk' hv' ih

theorem key_stays {q : Nat} {k k' : AV} {vk vk' : Value} (hv : VR ρ k vk) (hv' : VR ρ k' vk') (he : eqCell q k k' = some true) : (Instr.keyThatStays vk' vk).run P w = .ok vk w := by
  have : Instr.sameBits 10000 vk' vk = true := by
    unfold eqCell at he
    split at he
    · cases hv; cases hv'
      rename_i k1 n1 k2 n2
      rw [keq_eq, ieq_beq] at he
      cases hb : (Nat.beq q 1 && decide (k1 = k2)) with
      | false => rw [hb] at he; cases he
      | true =>
        rw [hb] at he
        simp at hb he
        obtain ⟨_, rfl⟩ := hb
        subst he
        simp [Instr.sameBits]
    · cases hv; cases hv'
      rename_i b1 b2
      cases hb : Nat.beq q 0 with
      | false => rw [hb] at he; cases he
      | true =>
        rw [hb] at he
        simp at he
        subst he
        simp [Instr.sameBits]
    · cases hv with | str h1 => cases hv' with | str h2 =>
      cases hb : Nat.beq q 2 with
      | false => rw [hb] at he; cases he
      | true =>
        rw [hb] at he
        simp at he
        rename_i s1 s2
        subst h1; subst h2
        have h3 : decide (s2.data.toList.map (·.toNat) = s1.data.toList.map (·.toNat)) = true := by simp [he]
        rw [strs_eq, ← beq_toListBytes] at h3
        simpa [Instr.sameBits] using h3
    · cases he
  simp [Instr.keyThatStays, this]

theorem e_mupd (hs : Sim P ρ h B w) {t kt e : TypeId} (hu : P.underlying t = some (.map kt e)) {ks : KeyK} (hk : keyT P kt = some ks) {am ak ax : AOpd} {vm vk vx : Value}
    (hm : VR ρ (ev tm am) vm) (hkv : VR ρ (ev tm ak) vk) (hxv : VR ρ (ev tm ax) vx) {call : CallT} {av : AV} {h' : AHeap} (he : evalE (.mupd ks am ak ax) call tm h = some (av, h')) :
    ∃ w', (Instr.mapUpdate t vm vk vx).run P w = .ok () w' ∧ av = aundef ∧ Stp P B ρ h w ρ h' w' := by
  obtain ⟨q, rfl⟩ := keyT_one hk
  simp only [evalE] at he
  split at he <;> first | (cases he; done) | skip
  rename_i i heq
  rw [heq] at hm
  split at he <;> first | (cases he; done) | skip
  rename_i es hg
  cases hm with
  | map hp =>
    rename_i p
    obtain ⟨hb0, hr1, hB, ms, ck, hb, hes⟩ := hs.obj i _ _ hg hp
    have hlt := (Array.getElem?_eq_some_iff.1 hb).1
    have hget : (getObj p.blk).run P w = .ok (.map ms ck) w := by
      show (Sem.getObj p.blk Sem.pure).run P w = _
      simp only [Sem.run, hb]
    have hset : ∀ o, (setObj p.blk o).run P w = .ok () (putRowW w p.blk o) := by
      intro o
      show (Sem.setObj p.blk o (Sem.pure ())).run P w = _
      simp only [Sem.run, hb]; rfl
    have hkind : ∀ q, (∃ c r, h.get q = some (.cells c r)) → ∀ pq, ρ q = some pq → pq.blk ≠ p.blk := by
      intro q hq pq hpq e
      obtain ⟨c, r, hc⟩ := hq
      obtain ⟨cc, el, fr, h1, _⟩ := hs.obj q _ pq hc hpq
      rw [e, hb] at h1; cases h1
    have fin : ∀ (ms' : Array MapEntry) (ck' : Nat) (es' : List (AV × AV)), EsR ρ es' ms'.toList → Stp P B ρ h w ρ (h.set i (.map es')) (putRowW w p.blk (.map ms' ck')) := by
      intro ms' ck' es' hes'
      exact hs.putObj hg hp rfl hr1 hb0 rfl hkind (fun ⟨L, hL⟩ => by rw [hb] at hL; cases hL) ⟨hb0, hr1, hB, ms', ck', putRowW_same hlt, hes'⟩
    cases hf : findKey (.one q) (ev tm ak) es 0 with
    | none => rw [hf] at he; cases he
    | some r =>
      rw [hf] at he
      obtain ⟨dsc, r', hd, hfn, hr⟩ := findKey_run hk hkv hes hf
      rcases hr with ⟨rfl, rfl⟩ | ⟨j, av', v', rfl, rfl, hvv⟩
      · cases he
        refine ⟨putRowW w p.blk (.map (ms.push { key := vk, val := vx, born := ck }) (ck + 1)), ?_, rfl, fin _ _ _ ?_⟩
        · simp [Instr.mapUpdate, run_underlying hu, hget, checkKey_run hk, Instr.findKey, run_underlying hd, hfn, hset]
        · rw [Array.toList_push]; exact hes.push hkv hxv
      · cases he
        obtain ⟨_, k', hat, hkeq⟩ := findKey_at hf
        simp only [Nat.sub_zero] at hat
        obtain ⟨en, hen, hk1, hv1⟩ := hes.get hat
        have hen' : ms[j]? = some en := by simpa using hen
        have hst := key_stays (P := P) (w := w) hkv hk1 hkeq
        refine ⟨putRowW w p.blk (.map (ms.modify j fun e => { e with key := vk, val := vx }) ck), ?_, rfl, fin _ _ _ ?_⟩
        · simp [Instr.mapUpdate, run_underlying hu, hget, checkKey_run hk, Instr.findKey, run_underlying hd, hfn, hen', hst, hset]
        · rw [Array.toList_modify]
          exact setAt_run hes ((List.getElem?_eq_some_iff.1 hat).1) fun e => ⟨hkv, hxv⟩

def isCall : AOp → Bool | .call .. => true | _ => false

/-- ALL OF THEM, CALLS ASIDE. -/
theorem e_sound (hs : Sim P ρ h B w) (ht : TR ρ tm a.tmps) {ao : AOp} (htr : trOp P o.op = some ao) (hnc : isCall ao = false) {call : CallT} {av : AV} {h' : AHeap} (he : evalE ao call tm h = some (av, h')) :
    ES P B ρ h w a o av h' := by
  cases hop : o.op with
  | store t x y =>
    rw [hop] at htr; simp only [trOp] at htr
    split at htr <;> cases htr
    rename_i n ax ay hn hx hy
    obtain ⟨w', k1, k2, k3⟩ := e_store hs hn (opd_sound ht hx) (opd_sound ht hy) he
    exact ⟨.skip, ρ, w', by simp [execOp, hop, k1], .inr ⟨rfl, k2⟩, k3⟩
  | mapUpdate t m k v =>
    rw [hop] at htr; simp only [trOp] at htr
    split at htr <;> first | (cases htr; done) | skip
    rename_i hu hm hk hv
    split at htr <;> cases htr
    rename_i hkt
    obtain ⟨w', k1, k2, k3⟩ := e_mupd hs hu hkt (opd_sound ht hm) (opd_sound ht hk) (opd_sound ht hv) he
    exact ⟨.skip, ρ, w', by simp [execOp, hop, k1], .inr ⟨rfl, k2⟩, k3⟩
  | insert t m k v =>
    rw [hop] at htr; simp only [trOp] at htr
    split at htr <;> first | (cases htr; done) | skip
    rename_i hu hm hk hv
    split at htr <;> cases htr
    rename_i hkt
    obtain ⟨w', k1, k2, k3⟩ := e_mupd hs hu hkt (opd_sound ht hm) (opd_sound ht hk) (opd_sound ht hv) he
    exact ⟨.skip, ρ, w', by simp [execOp, hop, k1], .inr ⟨rfl, k2⟩, k3⟩
  | call c =>
    rw [hop] at htr; simp only [trOp] at htr
    obtain ⟨callee, cargs, cts⟩ := c
    unfold trCall at htr
    cases hargs : trOpds cargs.toList with
    | none => simp only [hargs] at htr; cases htr
    | some args =>
      simp only [hargs] at htr
      have hvs := opds_sound ht hargs
      have hlist : (cargs.map a.eval).toList = cargs.toList.map a.eval := Array.toList_map ..
      split at htr
      · split at htr <;> cases htr
        simp [isCall] at hnc
      · cases htr
      · have two : ∀ x y ts tx, args = [x, y] → cts.toList = [ts, tx] → ∃ vx vy, cargs.map a.eval = #[vx, vy] ∧ VR ρ (ev tm x) vx ∧ VR ρ (ev tm y) vy ∧ cts[0]? = some ts ∧ cts[1]? = some tx := by
          intro x y ts tx e1 e2
          subst e1
          have hts : cts = #[ts, tx] := Array.ext' e2
          cases hl : cargs.toList.map a.eval with
          | nil => rw [hl] at hvs; cases hvs
          | cons v1 r1 =>
            rw [hl] at hvs
            cases hvs with
            | cons h1 hr =>
              cases hr with
              | cons h2 hr2 =>
                cases hr2
                exact ⟨_, _, by apply Array.ext'; rw [hlist, hl], h1, h2, by rw [hts]; rfl, by rw [hts]; rfl⟩
        split at htr <;> first | (cases htr; done) | skip
        rename_i sx xx ts tx hcts
        obtain ⟨vx, vy, hca, hv1, hv2, ht1, ht2⟩ := two _ _ _ _ rfl hcts
        have key : ∀ {e : TypeId} {du : TypeDesc}, P.underlying ts = some (.slice e) → P.underlying tx = some du → (∀ k, du ≠ .int k) → ∀ {sz by' : Nat} {z : List AV}, sizeT P e = some sz → bytesT P e = some by' → zeroOf P e = some z →
            1 ≤ sz → 1 ≤ by' → z.length = sz → ao = .append sz by' z sx xx → ES P B ρ h w a o av h' := by
          intro e du hu1 hu2 hdu sz by' z hsz hby hz c1 c2 c3 e0
          subst e0
          obtain ⟨v, ρ', w', k1, k2, k3⟩ := e_append (ty := o.type) hs ht1 ht2 hu1 hu2 hdu hsz hby hz c1 c2 c3 hv1 hv2 he
          refine ⟨.value v, ρ', w', ?_, .inl ⟨v, rfl, k2⟩, k3⟩
          rw [exec_builtin hop]
          simp [builtin, hca, k1]
        split at htr <;> first | (cases htr; done) | skip
        · rename_i e e' hu1 hu2
          split at htr <;> first | (cases htr; done) | skip
          rename_i sz by' z hsz hby hz
          split at htr <;> cases htr
          rename_i hc
          exact key hu1 hu2 (fun k e => by cases e) hsz hby hz hc.1 hc.2.1 hc.2.2 rfl
        · rename_i e hu1 hu2
          split at htr <;> first | (cases htr; done) | skip
          rename_i sz by' z hsz hby hz
          split at htr <;> cases htr
          rename_i hc
          exact key hu1 hu2 (fun k e => by cases e) hsz hby hz hc.1 hc.2.1 hc.2.2 rfl
      · split at htr <;> first | (cases htr; done) | skip
        rename_i dx xx t ts hcts
        split at htr <;> first | (cases htr; done) | skip
        rename_i e hu
        split at htr <;> first | (cases htr; done) | skip
        rename_i sz hsz
        split at htr <;> cases htr
        rename_i hc1
        have ht0 : cts[0]? = some t := by
          have : cts.toList[0]? = some t := by rw [hcts]; rfl
          simpa using this
        cases hl : cargs.toList.map a.eval with
        | nil => rw [hl] at hvs; cases hvs
        | cons v1 r1 =>
          rw [hl] at hvs
          cases hvs with
          | cons h1 hr =>
            cases hr with
            | cons h2 hr2 =>
              cases hr2
              rename_i v2
              have hca : cargs.map a.eval = #[v1, v2] := by apply Array.ext'; rw [hlist, hl]
              obtain ⟨v, ρ', w', k1, k2, k3⟩ := e_copy (ty := o.type) hs ht0 hu hsz hc1 h1 h2 he
              refine ⟨.value v, ρ', w', ?_, .inl ⟨v, rfl, k2⟩, k3⟩
              rw [exec_builtin hop]
              simp [builtin, hca, k1]
      · split at htr <;> first | (cases htr; done) | skip
        split at htr <;> first | (cases htr; cases he; done) | (cases htr; done) | skip
        split at htr <;> cases htr; cases he
      · cases htr; cases he
      · cases htr; cases he
      · cases htr
  | makeFunc fn f c =>
    rw [hop] at htr
    cases fn <;> simp only [trOp] at htr <;> first | (cases htr; done) | skip
    split at htr <;> cases htr
    cases he
  | makeMap t r =>
    rw [hop] at htr
    cases r <;> simp only [trOp] at htr <;> first | (cases htr; done) | (cases htr; cases he; done)
  | _ =>
    rw [hop] at htr
    simp only [trOp] at htr
    first
      | (cases htr; done)
      | ((repeat' (split at htr)) <;> first | (cases htr; done) | (cases htr; cases he; done))

end
end Go.AM
