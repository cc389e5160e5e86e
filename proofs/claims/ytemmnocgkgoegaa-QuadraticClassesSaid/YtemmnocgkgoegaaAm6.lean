/- Equality of flat values (bools, integers, strings; structs and arrays of such): cell by cell. No condition. -/
import Derived.Test.YtemmnocgkgoegaaAm5
namespace Go.AM
open Go

theorem eqCells_append {k1 : List Nat} : ∀ {x1 y1 : List AV} {k2 : List Nat} {x2 y2 : List AV}, k1.length = x1.length → k1.length = y1.length →
    eqCells (k1 ++ k2) (x1 ++ x2) (y1 ++ y2) = (match eqCells k1 x1 y1 with | some true => eqCells k2 x2 y2 | r => r) := by
  induction k1 with
  | nil =>
    intro x1 y1 k2 x2 y2 h1 h2
    obtain rfl := List.eq_nil_of_length_eq_zero h1.symm
    obtain rfl := List.eq_nil_of_length_eq_zero h2.symm
    simp [eqCells]
  | cons k k1 ih =>
    intro x1 y1 k2 x2 y2 h1 h2
    cases x1 with
    | nil => simp at h1
    | cons x x1 =>
      cases y1 with
      | nil => simp at h2
      | cons y y1 =>
        simp only [List.cons_append, eqCells]
        rw [ih (by simpa using h1) (by simpa using h2)]
        cases eqCell k x y with
        | none => rfl
        | some b => cases b <;> rfl

theorem eqCells_len {ks : List Nat} : ∀ {xs ys : List AV} {b : Bool}, eqCells ks xs ys = some b → True := fun _ => trivial

/-- the value of a type that has these cells -/
def valOf (P : Program) (t : TypeId) (vs : List Value) : Value := if aggT P t = some true then .agg ⟨vs⟩ else vs.headD undef

theorem sizeT_run {P : Program} {t : TypeId} {n : Nat} (h : sizeT P t = some n) (w : World) : (sizeOf t).run P w = .ok n w := by
  unfold sizeT at h
  cases hi : P.info? t with
  | none => simp [hi] at h
  | some i => simp [hi] at h; rw [run_sizeOf w hi, Program.cellsOf, hi]; simp [h]
theorem aggT_run {P : Program} {t : TypeId} {b : Bool} (h : aggT P t = some b) (w : World) : (isAgg t).run P w = .ok b w := by
  unfold aggT at h
  cases hu : P.underlying t with
  | none => simp [hu] at h
  | some d => rw [hu] at h; cases d <;> simp at h <;> subst h <;> simp [isAgg, run_underlying hu]

theorem part_run {P : Program} {t : TypeId} {n o : Nat} {XS : Array Value} (hs : sizeT P t = some n) (b : Bool) (ha : aggT P t = some b) (h1 : b = false → n = 1) (hlen : o + n ≤ XS.size) (w : World) :
    (part t XS o).run P w = .ok (valOf P t ((XS.toList.drop o).take n)) w := by
  cases b with
  | true =>
    simp only [part, Sem.run_bind, aggT_run ha, Result.andThen_ok, if_true, sizeT_run hs, Sem.run_pure, valOf, ha]
    congr 2
    apply Array.ext'
    simp [Array.toList_extract, List.extract]
  | false =>
    obtain rfl := h1 rfl
    simp only [part, Sem.run_bind, aggT_run ha, Result.andThen_ok, Bool.false_eq_true, if_false, valOf, ha]
    have hlt : o < XS.size := by omega
    rw [Array.getElem?_eq_getElem hlt]
    simp only [Sem.run_pure]
    have : (XS.toList.drop o).take 1 = [XS[o]] := by
      rw [List.take_one, List.head?_drop]
      simp [hlt]
    rw [this]; simp

theorem flat_scalar {P : Program} {d : Nat} {t : TypeId} {ks : List Nat} (h : flatT P d t = some ks) (ha : aggT P t = some false) : ∃ k, ks = [k] := by
  cases d with
  | zero => simp [flatT] at h
  | succ d =>
    unfold flatT at h; unfold aggT at ha
    cases hu : P.underlying t with
    | none => simp [hu] at h
    | some dsc => rw [hu] at h ha; cases dsc <;> simp at h ha <;> exact ⟨_, h.symm⟩

theorem VRs.drop {ρ : Rho} {a : List AV} {v : List Value} (h : VRs ρ a v) (n : Nat) : VRs ρ (a.drop n) (v.drop n) := by
  induction n generalizing a v with
  | zero => exact h
  | succ n ih => cases h with
    | nil => exact .nil
    | cons h hs => exact ih hs
theorem VRs.take {ρ : Rho} {a : List AV} {v : List Value} (h : VRs ρ a v) (n : Nat) : VRs ρ (a.take n) (v.take n) := by
  induction n generalizing a v with
  | zero => exact .nil
  | succ n ih => cases h with
    | nil => exact .nil
    | cons h hs => exact .cons h (ih hs)

theorem flatT_agg {P : Program} {d : Nat} {t : TypeId} {ks : List Nat} (h : flatT P d t = some ks) : ∃ b, aggT P t = some b := by
  cases d with
  | zero => simp [flatT] at h
  | succ d =>
    unfold flatT at h; unfold aggT
    cases hu : P.underlying t with
    | none => simp [hu] at h
    | some dsc => cases dsc <;> exact ⟨_, rfl⟩

/-- EQUALITY AT A FLAT TYPE. -/
theorem flat_run {ρ : Rho} {P : Program} : ∀ (d : Nat) (t : TypeId) (ks : List Nat) (D : Nat) (xs ys : List AV) (vs us : List Value) (r : Bool) (w : World), flatT P d t = some ks → packedT P d t = true → d ≤ D →
    VRs ρ xs vs → VRs ρ ys us → xs.length = ks.length → ys.length = ks.length → eqCells ks xs ys = some r → (Op.equalIn D t (valOf P t vs) (valOf P t us)).run P w = .ok r w := by
  intro d
  induction d with
  | zero => intro t ks D xs ys vs us r w h; simp [flatT] at h
  | succ d ih =>
    intro t ks D xs ys vs us r w hf hp hD hx hy hlx hly he
    obtain ⟨D, rfl⟩ : ∃ D', D = D' + 1 := ⟨D - 1, by omega⟩
    obtain ⟨b, hag⟩ := flatT_agg hf
    cases b with
    | false =>
      obtain ⟨k, rfl⟩ := flat_scalar hf hag
      cases hx with
      | nil => simp at hlx
      | cons hx hxs =>
        cases hxs with
        | cons _ _ => simp at hlx
        | nil =>
          cases hy with
          | nil => simp at hly
          | cons hy hys =>
            cases hys with
            | cons _ _ => simp at hly
            | nil =>
              simp only [valOf, hag, Option.some.injEq, Bool.false_eq_true, if_false, List.headD_cons]
              refine eqCell_run hf hag hx hy ?_
              simp only [eqCells] at he
              revert he
              cases eqCell k _ _ with
              | none => intro he; cases he
              | some b => cases b <;> intro he <;> cases he <;> rfl
    | true =>
      simp only [valOf, hag, if_true]
      have hag' := hag
      unfold aggT at hag'
      unfold flatT at hf
      unfold packedT at hp
      cases hu : P.underlying t with
      | none => simp [hu] at hf
      | some dsc =>
        rw [hu] at hf hag' hp
        cases dsc <;> simp at hag'
        · -- an array
          rename_i n e
          simp only at hf hp
          cases hfe : flatT P d e with
          | none => simp [hfe] at hf
          | some ke =>
            simp only [hfe] at hf
            split at hf
            · rename_i hsz
              cases hf
              obtain ⟨i, hi⟩ : ∃ i, P.info? e = some i := by
                unfold sizeT at hsz; cases hi : P.info? e with
                | none => simp [hi] at hsz
                | some i => exact ⟨i, rfl⟩
              have hcell : P.cellsOf e = ke.length := by
                unfold sizeT at hsz; rw [hi] at hsz; simp [Program.cellsOf, hi]; simpa using hsz
              rw [run_equalIn_array w D _ _ hu hi, hcell]
              obtain ⟨be, hbe⟩ := flatT_agg hfe
              have h1 : be = false → ke.length = 1 := by
                rintro rfl; obtain ⟨k, rfl⟩ := flat_scalar hfe hbe; rfl
              -- over the items from j on
              have key : ∀ (m j : Nat), j + m = n → ∀ r, eqCells (List.replicate m ke).flatten (xs.drop (j * ke.length)) (ys.drop (j * ke.length)) = some r →
                  (Op.eqItems D e ke.length ⟨vs⟩ ⟨us⟩ (List.range' j m)).run P w = .ok r w := by
                intro m
                induction m with
                | zero =>
                  intro j hj r hr
                  simp only [List.replicate_zero, List.flatten_nil, List.range'_zero, Op.eqItems, Sem.run_pure] at hr ⊢
                  have hlx' : xs.length = n * ke.length := by simpa using hlx
                  have hly' : ys.length = n * ke.length := by simpa using hly
                  have e1 : xs.drop (j * ke.length) = [] := by apply List.drop_eq_nil_of_le; rw [hlx', ← hj]; simp
                  have e2 : ys.drop (j * ke.length) = [] := by apply List.drop_eq_nil_of_le; rw [hly', ← hj]; simp
                  rw [e1, e2, eqCells] at hr; cases hr; rfl
                | succ m ihm =>
                  intro j hj r hr
                  have hlx' : xs.length = n * ke.length := by simpa using hlx
                  have hly' : ys.length = n * ke.length := by simpa using hly
                  have hle : j * ke.length + ke.length ≤ n * ke.length := by
                    rw [← Nat.succ_mul]; exact Nat.mul_le_mul_right _ (by omega)
                  rw [List.replicate_succ, List.flatten_cons] at hr
                  rw [← List.take_append_drop ke.length (xs.drop (j * ke.length)), ← List.take_append_drop ke.length (ys.drop (j * ke.length)),
                    eqCells_append (by simp; omega) (by simp; omega)] at hr
                  have p1 := part_run (P := P) (t := e) (n := ke.length) (o := j * ke.length) (XS := ⟨vs⟩) hsz be hbe h1 (by have := VRs.length hx; simp; omega) w
                  have p2 := part_run (P := P) (t := e) (n := ke.length) (o := j * ke.length) (XS := ⟨us⟩) hsz be hbe h1 (by have := VRs.length hy; simp; omega) w
                  simp only [List.range'_succ, Op.eqItems, Sem.run_bind, p1, p2, Result.andThen_ok]
                  cases hr1 : eqCells ke ((xs.drop (j * ke.length)).take ke.length) ((ys.drop (j * ke.length)).take ke.length) with
                  | none => rw [hr1] at hr; cases hr
                  | some b1 =>
                    have := ih e ke D _ _ _ _ b1 w hfe hp (by omega) ((hx.drop (j * ke.length)).take ke.length) ((hy.drop (j * ke.length)).take ke.length) (by simp; omega) (by simp; omega) hr1
                    rw [this]
                    rw [hr1] at hr
                    cases b1
                    · simp at hr; subst hr; simp
                    · simp only [List.drop_drop] at hr
                      have := ihm (j + 1) (by omega) r (by rw [Nat.succ_mul]; exact hr)
                      simpa using this
              rw [List.range_eq_range']
              exact key n 0 (by omega) r (by simpa using he)
            · cases hf
        · -- a struct
          rename_i fs
          simp only at hf hp
          split at hf
          · cases hf
          · rename_i hst
            have hfields : P.fieldsOf t = fs := by simp [Program.fieldsOf, hu]
            rw [run_equalIn_struct w D t _ _ (by rw [hfields]; exact hu) (by simpa using hst), hfields]
            simp only [Bool.and_eq_true, List.all_eq_true] at hp
            obtain ⟨hpk, hpt⟩ := hp
            have key : ∀ (fl : List Field) (o : Nat) (kl : List Nat), (∀ f ∈ fl, packedT P d f.type = true) → flatT.flatFs P (flatT P d) fl = some kl → packed P o fl = true → o + kl.length ≤ xs.length → o + kl.length ≤ ys.length →
                ∀ r, eqCells kl ((xs.drop o).take kl.length) ((ys.drop o).take kl.length) = some r → (Op.eqFields D ⟨vs⟩ ⟨us⟩ fl).run P w = .ok r w := by
              intro fl
              induction fl with
              | nil =>
                intro o kl _ hfl _ _ _ r hr
                simp [flatT.flatFs] at hfl; subst hfl
                simp [eqCells] at hr; subst hr
                simp [Op.eqFields]
              | cons f fl ihf =>
                intro o kl hpt hfl hpk hl1 hl2 r hr
                simp only [flatT.flatFs] at hfl
                split at hfl
                · cases hfl
                · rename_i hname
                  cases hff : flatT P d f.type with
                  | none => simp [hff] at hfl
                  | some kf =>
                    cases hfr : flatT.flatFs P (flatT P d) fl with
                    | none => simp [hff, hfr] at hfl
                    | some kr =>
                      simp only [hff, hfr] at hfl
                      split at hfl
                      · rename_i hsz
                        cases hfl
                        simp only [packed, hsz, Bool.and_eq_true, beq_iff_eq] at hpk
                        obtain ⟨ho, hpk⟩ := hpk
                        simp only [List.length_append] at hl1 hl2 hr
                        obtain ⟨be, hbe⟩ := flatT_agg hff
                        have h1 : be = false → kf.length = 1 := by
                          rintro rfl; obtain ⟨k, rfl⟩ := flat_scalar hff hbe; rfl
                        have p1 := part_run (P := P) (t := f.type) (n := kf.length) (o := o) (XS := ⟨vs⟩) hsz be hbe h1 (by have := VRs.length hx; simp; omega) w
                        have p2 := part_run (P := P) (t := f.type) (n := kf.length) (o := o) (XS := ⟨us⟩) hsz be hbe h1 (by have := VRs.length hy; simp; omega) w
                        have et : ∀ l : List AV, (l.drop o).take (kf.length + kr.length) = (l.drop o).take kf.length ++ ((l.drop (o + kf.length)).take kr.length) := by
                          intro l; rw [List.take_add, List.drop_drop]
                        rw [et, et, eqCells_append (by simp; omega) (by simp; omega)] at hr
                        simp only [Op.eqFields, ne_eq, hname, not_false_eq_true, if_true, ho, Sem.run_bind, p1, p2, Result.andThen_ok]
                        cases hr1 : eqCells kf ((xs.drop o).take kf.length) ((ys.drop o).take kf.length) with
                        | none => rw [hr1] at hr; cases hr
                        | some b1 =>
                          have := ih f.type kf D _ _ _ _ b1 w hff (hpt f (by simp)) (by omega) ((hx.drop o).take kf.length) ((hy.drop o).take kf.length) (by simp; omega) (by simp; omega) hr1
                          rw [this]
                          rw [hr1] at hr
                          cases b1
                          · simp at hr; subst hr; simp
                          · simp only at hr
                            have := ihf (o + kf.length) kr (fun g hg => hpt g (by simp [hg])) hfr hpk (by omega) (by omega) r hr
                            simpa using this
                      · cases hfl
            exact key fs.toList 0 ks (fun f hf => hpt f hf) hf hpk (by omega) (by omega) r (by
              rw [List.drop_zero, List.drop_zero, List.take_of_length_le (by omega), List.take_of_length_le (by omega)]; exact he)

end Go.AM
