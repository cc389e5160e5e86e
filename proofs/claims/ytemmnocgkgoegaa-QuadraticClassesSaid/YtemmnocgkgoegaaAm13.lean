/- The operations that turn the heap, calls aside: sound. No condition. -/
import Derived.Test.YtemmnocgkgoegaaAm12
namespace Go.AM
open Go

section
variable {P : Program} {B : Nat} {ρ : Rho} {h : AHeap} {w : World}

theorem putLay (hs : Sim P ρ h B w) {i o : Nat} {c c' new : List AV} {p : Place} {vs : List Value} (hg : h.get i = some (.cells c true)) (hp : ρ i = some p) (hl : lay c o new = some c')
    (hv : VRs ρ new vs) (h1 : ∀ v ∈ vs, v.oneCell' = true) :
    ∃ w', (storeCells ⟨p.blk, p.base + o, none⟩ vs).run P w = .ok () w' ∧ Stp P B ρ h w ρ (h.set i (.cells c' true)) w' := by
  obtain ⟨cc, el, fr, hb, hsz, hlen, hval, hfr⟩ := hs.obj i _ p hg hp
  obtain ⟨l1, l2, l3⟩ := lay_spec hl
  have hvl := VRs.length hv
  have hle : p.base + o + vs.length ≤ cc.size := by omega
  refine ⟨_, run_storeCells_put hb hle h1 (fun k k1 k2 => (hfr rfl).2 k (by omega) (by omega)), ?_⟩
  refine hs.putCells hg hp hb (over_size _ _ _) ?_ (by omega) ?_
  · intro k hk
    rw [over_get _ _ _ _ hle, if_neg (by omega)]
  · intro k a hk
    rw [l3 k] at hk
    by_cases hin : o ≤ k ∧ k < o + new.length
    · rw [if_pos hin] at hk
      obtain ⟨v, e1, e2⟩ := hv.get hk
      refine ⟨v, ?_, e2⟩
      rw [over_get _ _ _ _ hle, if_pos (by omega), show p.base + k - (p.base + o) = k - o by omega]; exact e1
    · rw [if_neg hin] at hk
      obtain ⟨v, e1, e2⟩ := hval k a hk
      refine ⟨v, ?_, e2⟩
      rw [over_get _ _ _ _ hle, if_neg (by omega)]; exact e1

theorem extendLay (hs : Sim P ρ h B w) {i o : Nat} {c new : List AV} {p : Place} {vs : List Value} (hg : h.get i = some (.cells c true)) (hp : ρ i = some p) (ho : o ≤ c.length) (hroom : c.length + new.length ≤ p.room)
    (hv : VRs ρ new vs) (h1 : ∀ v ∈ vs, v.oneCell' = true) :
    ∃ w', (storeCells ⟨p.blk, p.base + c.length, none⟩ vs).run P w = .ok () w' ∧ Stp P B ρ h w (upd ρ h.next ⟨p.blk, p.base + o, p.room - o⟩) ((h.del i).push (.cells (drops c o ++ new) true)) w' := by
  obtain ⟨cc, el, fr, hb, hsz, hlen, hval, hfr⟩ := hs.obj i _ p hg hp
  have hvl := VRs.length hv
  have hle : p.base + c.length + vs.length ≤ cc.size := by omega
  refine ⟨_, run_storeCells_put hb hle h1 (fun k k1 k2 => (hfr rfl).2 k (by omega) (by omega)), ?_⟩
  rw [drops_eq]
  refine hs.extend hg hp hb (over_size _ _ _) (by omega) ?_ (by simp; omega) ?_
  · intro k hk
    rw [over_get _ _ _ _ hle, if_neg (by omega)]
  · intro k a hk
    by_cases hin : k < c.length - o
    · rw [List.getElem?_append_left (by simpa using hin), List.getElem?_drop] at hk
      obtain ⟨v, e1, e2⟩ := hval _ a hk
      refine ⟨v, ?_, e2⟩
      rw [over_get _ _ _ _ hle, if_neg (by omega), Nat.add_assoc]; exact e1
    · rw [List.getElem?_append_right (by simpa using hin)] at hk
      simp only [List.length_drop] at hk
      obtain ⟨v, e1, e2⟩ := hv.get hk
      have hk' : k - (c.length - o) < vs.length := (List.getElem?_eq_some_iff.1 e1).1
      refine ⟨v, ?_, e2⟩
      rw [over_get _ _ _ _ hle, if_pos (by omega), show p.base + o + k - (p.base + c.length) = k - (c.length - o) by omega]; exact e1

/-- an object forgotten -/
theorem Stp.del (hs : Sim P ρ h B w) (i : Nat) : Stp P B ρ h w ρ (h.del i) w := by
  have hold : ∀ j o, (h.del i).get j = some o → h.get j = some o := by
    intro j o hj
    by_cases e : j = i
    · subst e; rw [AHeap.get_del_same] at hj; cases hj
    · rw [AHeap.get_del_ne _ e] at hj; exact hj
  exact ⟨Ext.refl _, ⟨hs.low, hs.dom, fun j o p h1 h2 => hs.obj j o p (hold j o h1) h2, fun j k oj ok pj pk hne h1 h2 => hs.sep j k oj ok pj pk hne (hold _ _ h1) (hold _ _ h2), hs.tidy.del i⟩, rfl, rfl, rfl, Nat.le_refl _,
    fun _ _ _ => rfl, fun j o p h1 h2 h3 => .inr ⟨j, o, p, hold _ _ h1, h2, h3, rfl⟩, Nat.le_refl _, fun _ _ h => .inl h, fun _ L h => ⟨L, h⟩⟩

/-- a new row of cells -/
theorem Sim.newRow (hs : Sim P ρ h B w) {c : List AV} {cc : Array Value} {el : TypeId} {room : Nat} (hroom : room ≤ cc.size) (hc : c.length ≤ room) (hv : ∀ (k : Nat) a, c[k]? = some a → ∃ v, cc[k]? = some v ∧ VR ρ a v) :
    Stp P B ρ h w (upd ρ h.next ⟨w.heap.size, 0, room⟩) (h.push (.cells c true)) (w.alloc (.cells cc el)) := by
  have hnone : ρ h.next = none := by
    cases e : ρ h.next with
    | none => rfl
    | some q => exact absurd (hs.dom _ _ e) (Nat.lt_irrefl _)
  exact hs.push _ _ _ rfl (ObjR.newCells hs.low hroom hc (fun k a hk => let ⟨v, h1, h2⟩ := hv k a hk; ⟨v, h1, h2.mono (Ext.upd _ hnone)⟩) (.inr rfl))

theorem cellsOf_some {i : Nat} {c : List AV} (hc : cellsOf h i = some c) : ∃ r, h.get i = some (.cells c r) := by
  unfold cellsOf at hc; split at hc <;> cases hc; rename_i c' r hg; exact ⟨r, hg⟩
theorem ownOf_some {i : Nat} {c : List AV} (hc : ownOf h i = some c) : h.get i = some (.cells c true) := by
  unfold ownOf at hc; split at hc <;> cases hc; rename_i hg; exact hg

theorem VRs.one {new : List AV} {vs : List Value} (hv : VRs ρ new vs) (hsc : new.all AV.scalar = true) : ∀ v ∈ vs, v.oneCell' = true := by
  intro v hm
  obtain ⟨k, hk, e⟩ := List.getElem_of_mem hm
  have hl := VRs.length hv
  have hk' : k < new.length := by omega
  obtain ⟨y, e1, e2⟩ := hv.get (List.getElem?_eq_getElem hk')
  rw [List.getElem?_eq_getElem hk] at e1
  cases e1; subst e
  exact e2.oneCell (List.all_eq_true.1 hsc _ (List.getElem_mem _))

/-- what is appended or copied -/
theorem src_run (hs : Sim P ρ h B w) {sz n : Nat} {ax : AV} {vx : Value} (hv : VR ρ ax vx) {new : List AV} (he : srcOf sz ax h = some (n, new)) :
    (Builtin.lenOf vx).run P w = .ok n w ∧ new.length = n * sz ∧ new.all AV.scalar = true ∧
      ∃ vs : List Value, VRs ρ new vs ∧ ∀ m, m ≤ n → ∀ w' : World, w'.heap = w.heap → (Builtin.firstCells sz m vx).run P w' = .ok (vs.take (m * sz)).toArray w' := by
  unfold srcOf at he
  split at he
  · cases he; cases hv
    exact ⟨by simp [Builtin.lenOf], by simp, rfl, [], .nil, fun m hm w' _ => by simp [Builtin.firstCells]⟩
  · rename_i j o n' cp
    split at he <;> first | (cases he; done) | skip
    rename_i c hc
    split at he <;> first | (cases he; done) | skip
    rename_i r hcut
    cases hall : r.all AV.scalar with
    | false => rw [hall] at he; cases he
    | true =>
      rw [hall] at he; cases he
      obtain ⟨rw', hg⟩ := cellsOf_some hc
      have main : ∀ p, ρ j = some p → ∀ c', (∃ vs : List Value, VRs ρ new vs ∧ ∀ m, m ≤ n → ∀ w' : World, w'.heap = w.heap → (Builtin.firstCells sz m (.slice (some ⟨p.blk, p.base + o, none⟩) n c')).run P w' = .ok (vs.take (m * sz)).toArray w') := by
        intro p hp c'
        obtain ⟨vs, k1, k2, k3⟩ := read_cut hs hg hp hcut
        refine ⟨vs, k2, fun m hm w' hw => ?_⟩
        have hle : m * sz ≤ n * sz := Nat.mul_le_mul_right _ hm
        have := run_loadCells_of (P := P) (w := w') (b := p.blk) (o := p.base + o) (vs := vs.take (m * sz)) (fun j v hj => by
          rw [List.getElem?_take] at hj
          split at hj
          · have hk := k3 j v hj
            simp only [World.cell?, hw] at hk ⊢; exact hk
          · cases hj)
        rw [List.length_take, k1, Nat.min_eq_left hle] at this
        exact this
      have hlen := (cut_spec hcut).1
      cases hv with
      | slx hp _ => exact ⟨by simp [Builtin.lenOf], hlen, hall, main _ hp _⟩
      | slo hp _ _ => exact ⟨by simp [Builtin.lenOf], hlen, hall, main _ hp _⟩
      | sle a hp _ =>
        refine ⟨by simp [Builtin.lenOf], hlen, hall, [], ?_, fun m hm w' _ => ?_⟩
        · have : new = [] := List.eq_nil_of_length_eq_zero (by omega)
          subst this; exact .nil
        · have : m = 0 := by omega
          subst this; simp [Builtin.firstCells, loadCells, loadCellsFrom, Sem.run_pure]
  · rename_i s
    split at he <;> cases he
    rename_i h1; subst h1
    cases hv with
    | str hl =>
      rename_i bs
      have hll : s.length = bs.size := by rw [← hl, List.length_map]; rfl
      refine ⟨by simp [Builtin.lenOf, hll], by simp [ofBytes_length], ?_, (bs.data.toList.map fun b => Value.int .u8 b.toNat), ?_, fun m hm w' _ => ?_⟩
      · have : ∀ l : List Nat, (ofBytes l).all AV.scalar = true := by
          intro l; induction l with
          | nil => rfl
          | cons b r ih => simp [ofBytes, ih, AV.scalar]
        exact this s
      · subst hl
        have : ∀ l : List UInt8, VRs ρ (ofBytes (l.map (·.toNat))) (l.map fun b => Value.int .u8 b.toNat) := by
          intro l; induction l with
          | nil => exact .nil
          | cons b r ih => exact .cons (.int _ _) ih
        exact this _
      · simp only [Builtin.firstCells, Sem.run_pure, Nat.mul_one]
        congr 1
        apply Array.ext'
        simp [ByteArray.data_extract, Array.toList_extract, List.extract]
  · cases he

theorem append_in {ats : Array TypeId} {ty t u e : TypeId} {du : TypeDesc} (h0 : ats[0]? = some t) (h1 : ats[1]? = some u) (ht : P.underlying t = some (.slice e)) (hu : P.underlying u = some du) (hdu : ∀ k, du ≠ .int k)
    {i : TypeInfo} (hi : P.info? e = some i) {base : Option Addr} {sLen sCap n : Nat} {vx : Value} {new : Array Value} (hn : (Builtin.lenOf vx).run P w = .ok n w) (hle : sLen + n ≤ sCap)
    (hnew : (Builtin.firstCells i.size n vx).run P w = .ok new w) {w' : World} (hst : (match base with | some a => storeCells (a.add (sLen * i.size)) new.toList | none => pure ()).run P w = .ok () w') :
    (Builtin.append_ ats ty #[.slice base sLen sCap, vx]).run P w = .ok (.slice base (sLen + n) sCap) w' := by
  have hz : (match du with | .int _ => true | _ => false) = false := by cases du <;> first | rfl | exact absurd rfl (hdu _)
  cases base with
  | none =>
    simp only [Sem.run_pure] at hst
    cases hst
    simp [Builtin.append_, h0, h1, run_underlying ht, run_underlying hu, sizeOf, typeInfo, hi, hn, hle, hnew]
  | some a =>
    simp [Builtin.append_, h0, h1, run_underlying ht, run_underlying hu, sizeOf, typeInfo, hi, hn, hle, hnew, hst]

theorem append_grow {ats : Array TypeId} {ty t u e : TypeId} {du : TypeDesc} (h0 : ats[0]? = some t) (h1 : ats[1]? = some u) (ht : P.underlying t = some (.slice e)) (hu : P.underlying u = some du) (hdu : ∀ k, du ≠ .int k)
    {i : TypeInfo} (hi : P.info? e = some i) {z : Value} (hz' : i.zero = some z) {base : Option Addr} {sLen sCap n : Nat} {vx : Value} {new olds : Array Value} (hn : (Builtin.lenOf vx).run P w = .ok n w) (hlt : sCap < sLen + n)
    (hb1 : 1 ≤ i.bytes) (hb : (sLen + n) * i.bytes ≤ 140737488355328)
    (hold : (Builtin.firstCells i.size sLen (.slice base sLen sCap)).run P w.drew = .ok olds w.drew) (hnew : (Builtin.firstCells i.size n vx).run P w.drew = .ok new w.drew) :
    (Builtin.append_ ats ty #[.slice base sLen sCap, vx]).run P w = .ok (.slice (some ⟨w.heap.size, 0, none⟩) (sLen + n) (grownCap w (sLen + n) sCap e))
      (w.drew.alloc (.cells (olds ++ new ++ Builtin.zeroCells z.cells (grownCap w (sLen + n) sCap e - (sLen + n))) e)) := by
  have hz : (match du with | .int _ => true | _ => false) = false := by cases du <;> first | rfl | exact absurd rfl (hdu _)
  have hnot : ¬ (sLen + n ≤ sCap) := by omega
  have hfit := growslice_fits hlt hb
  have h48' : ¬ (281474976710656 < Builtin.nextslicecap (sLen + n) sCap * i.bytes) := by omega
  have hbz : ¬ i.bytes = 0 := by omega
  simp [Builtin.append_, h0, h1, run_underlying ht, run_underlying hu, sizeOf, typeInfo, zeroValue, hi, hz', hn, hnot, hbz, h48', Question.forced, hold, hnew, newRow, grownCap]

end
end Go.AM
