/- Each operation that turns no heap: the rest, and all in one. No condition. -/
import Derived.Test.YtemmnocgkgoegaaAm9
namespace Go.AM
open Go

section
variable {P : Program} {ρ : Rho} {h : AHeap} {B : Nat} {w : World} {tm : List AV} {a : Act}

theorem bad_cls : bad.cls = .q := rfl
theorem bad_eval (tm : List AV) (h : AHeap) : evalQ bad tm h = none := rfl

theorem q_sliceA {t e : TypeId} {n sz : Nat} (hsz : sizeT P e = some sz) {i off l hh m : Nat} {p : Place} (hp : ρ i = some p) {lo hi mx : Option Int} {vlo vhi vmx : Option Value}
    (h1 : ∀ x, lo = some x → ∃ k, vlo = some (.int k x)) (h1' : lo = none → vlo = none) (h2 : ∀ x, hi = some x → ∃ k, vhi = some (.int k x)) (h2' : hi = none → vhi = none)
    (h3 : ∀ x, mx = some x → ∃ k, vmx = some (.int k x)) (h3' : mx = none → vmx = none) (hb : bounds n n lo hi mx = some (l, hh, m))
    (hu : P.underlying t = some (.array n e) ∨ ∃ b, P.underlying t = some (.pointer b) ∧ P.underlying b = some (.array n e)) :
    ∃ v, (Instr.sliceAt t (.pointer (some ⟨p.blk, p.base + off, none⟩)) vlo vhi vmx).run P w = .ok v w ∧ VR ρ (.slice i (if m = l then off else off + l * sz) (hh - l) (.exact (m - l))) v := by
  obtain ⟨g1, g2, g3⟩ := bounds_le hb (Nat.le_refl _)
  have hr := bounds_run (P := P) (w := w) (isSlice := false) hb h1 h1' h2 h2' h3 h3'
  have fin : VR ρ (.slice i (if m = l then off else off + l * sz) (hh - l) (.exact (m - l))) (.slice (some (if m = l then ⟨p.blk, p.base + off, none⟩ else (⟨p.blk, p.base + off, none⟩ : Addr).add (l * sz))) (hh - l) (m - l)) := by
    by_cases e : m = l
    · rw [if_pos e, if_pos e]; exact .slx hp (by omega)
    · rw [if_neg e, if_neg e, Addr.add_plain, Nat.add_assoc]; exact .slx hp (by omega)
  rcases hu with hu | ⟨b, hu, hub⟩
  · exact ⟨_, by simp [Instr.sliceAt, run_underlying hu, Instr.sureAddr, hr, sizeT_run hsz], fin⟩
  · exact ⟨_, by simp [Instr.sliceAt, run_underlying hu, Instr.slice, asAddr, run_underlying hub, hr, sizeT_run hsz], fin⟩

theorem foldl_bytes : ∀ (ns : List Int) (s : ByteArray), ((ns.map fun n => n.toNat % 256).foldl (fun s x => s.push (UInt8.ofNat x)) s) = ns.foldl (fun r n => r.push (UInt8.ofNat n.toNat)) s := by
  intro ns
  induction ns with
  | nil => intro s; rfl
  | cons n ns ih =>
    intro s
    have : UInt8.ofNat (n.toNat % 256) = UInt8.ofNat n.toNat := by apply UInt8.toNat_inj.1; simp
    simp only [List.map_cons, List.foldl_cons, this, ih]

theorem q_toStr (hs : Sim P ρ h B w) {ax : AOpd} {vx : Value} (hv : VR ρ (ev tm ax) vx) {av : AV} (he : evalQ (.toStr ax) tm h = some av) : ∃ v, (Conv.bytesToString vx).run P w = .ok v w ∧ VR ρ av v := by
  simp only [evalQ] at he
  cases hx : ev tm ax with
  | nils => rw [hx] at hv he; cases hv; cases he; exact ⟨_, rfl, .str rfl⟩
  | slice i o n cp =>
    rw [hx] at hv he
    simp only [cellsOf] at he
    cases hg : h.get i with
    | none => rw [hg] at he; cases he
    | some ob =>
      cases ob with
      | cells c r =>
        rw [hg] at he
        simp only at he
        cases hc : cut c o n with
        | none => rw [hc] at he; cases he
        | some rr =>
          rw [hc] at he
          simp only at he
          cases hbs : bytesOf rr with
          | none => rw [hbs] at he; cases he
          | some l =>
            rw [hbs] at he; cases he
            have main : ∀ (p : Place), ρ i = some p → ∀ c', ∃ s : ByteArray, (Conv.bytesToString (.slice (some ⟨p.blk, p.base + o, none⟩) n c')).run P w = .ok (.string s) w ∧ s.data.toList.map (·.toNat) = l := by
              intro p hp c'
              obtain ⟨vs, k1, k2, k3⟩ := read_cut hs hg hp hc
              obtain ⟨ns, rfl, rfl⟩ := bytes_run k2 hbs
              have hl := run_loadCells_of (P := P) (w := w) k3
              rw [k1] at hl
              refine ⟨ns.foldl (fun r n => r.push (UInt8.ofNat n.toNat)) .empty, ?_, by rw [foldl_push]; simp⟩
              simp only [Conv.bytesToString, Sem.run_bind, hl, Result.andThen, List.forIn_toArray]
              rw [run_forIn_bytes _ (by intro n r; simp [Sem.run_pure])]
              rfl
            cases hv with
            | slx hp hle => obtain ⟨s, h, e⟩ := main _ hp _; exact ⟨_, h, .str e⟩
            | slo hp hle hr => obtain ⟨s, h, e⟩ := main _ hp _; exact ⟨_, h, .str e⟩
            | sle ad hp hr =>
              obtain ⟨q1, q2⟩ := cut_eq hc
              simp at q2; subst q2
              simp [bytesOf] at hbs; subst hbs
              exact ⟨.string .empty, by simp [Conv.bytesToString, loadCells, loadCellsFrom, Sem.run_pure], .str rfl⟩
      | _ => rw [hg] at he; cases he
  | _ => rw [hx] at he; cases he

theorem sameNow_run {kt : TypeId} {q : Nat} (hk : keyT P kt = some (.one q)) {k k' : AV} {vk vk' : Value} (hv : VR ρ k vk) (hv' : VR ρ k' vk') {b : Bool} (he : eqCell q k k' = some b) :
    ∃ dsc, P.underlying kt = some dsc ∧ Instr.sameNow dsc vk vk' = some b := by
  unfold keyT at hk
  cases hu : P.underlying kt with
  | none => rw [hu] at hk; cases hk
  | some dsc =>
    rw [hu] at hk
    refine ⟨dsc, rfl, ?_⟩
    unfold eqCell at he
    split at he
    · rename_i k1 n1 k2 n2
      cases hv; cases hv'
      cases hq : Nat.beq q 1 with
      | false => simp [hq] at he
      | true =>
        obtain rfl := Nat.eq_of_beq_eq_true hq
        rw [keq_eq, ieq_beq] at he
        by_cases e : k1 = k2
        · subst e; simp at he; subst he
          cases dsc <;> simp at hk
          simp [Instr.sameNow]
        · simp [e] at he
    · rename_i b1 b2
      cases hv; cases hv'
      cases hq : Nat.beq q 0 with
      | false => simp [hq] at he
      | true =>
        obtain rfl := Nat.eq_of_beq_eq_true hq
        simp at he; subst he
        cases dsc <;> simp at hk
        simp [Instr.sameNow]
    · rename_i s1 s2
      cases hv with | str h1 => cases hv' with | str h2 =>
      subst h1; subst h2
      cases hq : Nat.beq q 2 with
      | false => simp [hq] at he
      | true =>
        obtain rfl := Nat.eq_of_beq_eq_true hq
        simp only [Nat.beq_refl, cond_true, Option.some.injEq] at he; subst he
        cases dsc <;> simp at hk
        rw [strs_eq, ← beq_toListBytes]
        rfl
    · cases he

theorem findKey_run {q : Nat} {kt : TypeId} (hk : keyT P kt = some (.one q)) {k : AV} {vk : Value} (hv : VR ρ k vk) : ∀ {es : List (AV × AV)} {ms : List MapEntry} {n : Nat} {r : Option (Nat × AV)}, EsR ρ es ms → findKey (.one q) k es n = some r →
    ∃ dsc r', P.underlying kt = some dsc ∧ Instr.findNow dsc vk ms n = some r' ∧
      ((r = none ∧ r' = none) ∨ ∃ i av v, r = some (i, av) ∧ r' = some (i, v) ∧ VR ρ av v)
  | [], ms, n, r, he, hf => by
    cases he
    unfold keyT at hk
    cases hu : P.underlying kt with
    | none => rw [hu] at hk; cases hk
    | some dsc => simp [findKey] at hf; subst hf; exact ⟨dsc, none, rfl, rfl, .inl ⟨rfl, rfl⟩⟩
  | (k', v') :: es, ms, n, r, he, hf => by
    cases he with
    | cons hk' hv' hs =>
      simp only [findKey, keyEq] at hf
      cases hq : eqCell q k k' with
      | none => rw [hq] at hf; cases hf
      | some b =>
        rw [hq] at hf
        obtain ⟨dsc, hu, hsame⟩ := sameNow_run hk hv hk' hq
        cases b with
        | true =>
          simp at hf; subst hf
          exact ⟨dsc, _, hu, by simp [Instr.findNow, hsame], .inr ⟨n, v', _, rfl, rfl, hv'⟩⟩
        | false =>
          simp only at hf
          obtain ⟨dsc', r', h1, h2, h3⟩ := findKey_run hk hv hs hf
          rw [hu] at h1; cases h1
          exact ⟨dsc, r', hu, by simp [Instr.findNow, hsame, h2], h3⟩

/-- a plain key passes the check -/
theorem checkKey_run {kt : TypeId} {q : Nat} (hk : keyT P kt = some (.one q)) (b : Bool) (v : Value) : (Instr.checkKey b 10000 kt v).run P w = .ok () w := by
  unfold keyT at hk
  cases hu : P.underlying kt with
  | none => rw [hu] at hk; cases hk
  | some dsc =>
    rw [hu] at hk
    have : ∀ D, (Instr.checkKey b (D + 1) kt v).run P w = .ok () w := by
      intro D
      cases dsc <;> simp at hk <;> (rw [Instr.checkKey]; simp only [Sem.run_bind, run_underlying hu, Result.andThen_ok, Sem.run_pure])
    exact this 9999

theorem keyT_one {kt : TypeId} {ks : KeyK} (hk : keyT P kt = some ks) : ∃ q, ks = .one q := by
  unfold keyT at hk
  split at hk <;> first | (cases hk; exact ⟨_, rfl⟩) | cases hk

theorem q_lookup (hs : Sim P ρ h B w) {t kt e : TypeId} (hu : P.underlying t = some (.map kt e)) {ks : KeyK} (hk : keyT P kt = some ks) {z : AV} (hz : zeroV P e = some z) {ok : Bool} {am ak : AOpd} {vm vk : Value}
    (hm : VR ρ (ev tm am) vm) (hkv : VR ρ (ev tm ak) vk) {av : AV} (he : evalQ (.lookup ks z ok am ak) tm h = some av) : ∃ v, (Instr.lookup t vm vk ok).run P w = .ok v w ∧ VR ρ av v := by
  obtain ⟨q, rfl⟩ := keyT_one hk
  obtain ⟨zv, hz1, hz2⟩ := zeroV_run hz ρ w
  simp only [evalQ] at he
  cases hx : ev tm am with
  | nilm =>
    rw [hx] at hm he; cases hm
    have hfn : ∃ dsc, P.underlying kt = some dsc := by
      unfold keyT at hk
      cases hu' : P.underlying kt with
      | none => rw [hu'] at hk; cases hk
      | some d => exact ⟨d, rfl⟩
    obtain ⟨dsc, hd⟩ := hfn
    have hrun : (Instr.lookup t (.map none) vk ok).run P w = .ok (if ok then .tuple #[zv, .bool false] else zv) w := by
      simp [Instr.lookup, run_underlying hu, checkKey_run hk, Instr.findKey, run_underlying hd, Instr.findNow, hz1]
    refine ⟨_, hrun, ?_⟩
    cases he
    cases ok
    · simpa using hz2
    · exact .tup (.cons hz2 (.cons (.bool _) .nil))
  | map i =>
    rw [hx] at hm he
    simp only at he
    cases hg : h.get i with
    | none => rw [hg] at he; cases he
    | some ob =>
      cases ob with
      | map es =>
        rw [hg] at he
        cases hm with
        | map hp =>
          rename_i p
          obtain ⟨_, _, _, ms, ck, hb, hes⟩ := hs.obj i _ _ hg hp
          simp only at he
          cases hf : findKey (.one q) (ev tm ak) es 0 with
          | none => rw [hf] at he; cases he
          | some r =>
            rw [hf] at he
            obtain ⟨dsc, r', hd, hfn, hr⟩ := findKey_run hk hkv hes hf
            have hget : (getObj p.blk).run P w = .ok (.map ms ck) w := by
              show (Sem.getObj p.blk Sem.pure).run P w = _
              simp only [Sem.run, hb]
            rcases hr with ⟨rfl, rfl⟩ | ⟨j, av', v', rfl, rfl, hvv⟩
            · have hrun : (Instr.lookup t (.map (some p.blk)) vk ok).run P w = .ok (if ok then .tuple #[zv, .bool false] else zv) w := by
                simp [Instr.lookup, run_underlying hu, hget, checkKey_run hk, Instr.findKey, run_underlying hd, hfn, hz1]
              refine ⟨_, hrun, ?_⟩
              cases he
              cases ok
              · simpa using hz2
              · exact .tup (.cons hz2 (.cons (.bool _) .nil))
            · have hrun : (Instr.lookup t (.map (some p.blk)) vk ok).run P w = .ok (if ok then .tuple #[v', .bool true] else v') w := by
                simp [Instr.lookup, run_underlying hu, hget, checkKey_run hk, Instr.findKey, run_underlying hd, hfn]
              refine ⟨_, hrun, ?_⟩
              cases he
              cases ok
              · simpa using hvv
              · exact .tup (.cons hvv (.cons (.bool _) .nil))
      | _ => rw [hg] at he; cases he
  | _ => rw [hx] at he; cases he

end
end Go.AM
