/- Whatever the translation makes of an operation that turns no heap: it is sound. No condition. -/
import Derived.Test.YtemmnocgkgoegaaAm10
namespace Go.AM
open Go

section
variable {P : Program} {ρ : Rho} {h : AHeap} {B : Nat} {w : World} {tm : List AV} {a : Act}

theorem exec_builtin {o : Oper} {b : Builtin} {cargs : Array Operand} {cts : Array TypeId} (ho : o.op = .call ⟨.builtin b, cargs, cts⟩) :
    execOp a.eval o = builtin b cts o.type (cargs.map fun | .const _ => true | _ => false) (cargs.map a.eval) := by
  simp only [execOp, ho]; rfl

theorem q_lenA {o : Oper} {cargs : Array Operand} {cts : Array TypeId} (ho : o.op = .call ⟨.builtin .len, cargs, cts⟩) {t : TypeId} {n : Nat} {vx : Value} (hct : cts[0]? = some t) (hca : cargs.map a.eval = #[vx])
    (hu : (∃ e, P.underlying t = some (.array n e)) ∨ ∃ b e, P.underlying t = some (.pointer b) ∧ P.underlying b = some (.array n e)) : QS P ρ w a o (.int .i64 n) := by
  rw [QS, exec_builtin ho]
  rcases hu with ⟨e, hu⟩ | ⟨b, e, hu, hb⟩
  · exact ⟨_, by simp [builtin, Builtin.len_, hct, hca, run_underlying hu, goInt], .int _ _⟩
  · exact ⟨_, by simp [builtin, Builtin.len_, hct, hca, run_underlying hu, run_underlying hb, goInt], .int _ _⟩

theorem q_len (hs : Sim P ρ h B w) {o : Oper} {cargs : Array Operand} {cts : Array TypeId} (ho : o.op = .call ⟨.builtin .len, cargs, cts⟩) {t : TypeId} {k : Nat} {ax : AOpd} {vx : Value} (hct : cts[0]? = some t) (hca : cargs.map a.eval = #[vx])
    (hv : VR ρ (ev tm ax) vx) (hu : (k = 0 ∧ P.underlying t = some .string) ∨ (k = 1 ∧ ∃ e, P.underlying t = some (.slice e)) ∨ (k = 2 ∧ ∃ q e, P.underlying t = some (.map q e))) {av : AV}
    (he : evalQ (.len k ax) tm h = some av) : QS P ρ w a o av := by
  rw [QS, exec_builtin ho]
  simp only [evalQ] at he
  rcases hu with ⟨rfl, hu⟩ | ⟨rfl, e, hu⟩ | ⟨rfl, q, e, hu⟩
  · cases hx : ev tm ax with
    | str l =>
      rw [hx] at hv he; cases he
      cases hv with
      | str hl => rename_i bs; subst hl; exact ⟨.int .i64 bs.size, by simp [builtin, Builtin.len_, hct, hca, run_underlying hu, goInt], by rw [List.length_map]; exact .int _ _⟩
    | _ => rw [hx] at he; cases he
  · cases hx : ev tm ax with
    | nils => rw [hx] at hv he; cases he; cases hv; exact ⟨_, by simp [builtin, Builtin.len_, hct, hca, run_underlying hu, goInt], .int _ _⟩
    | slice i off n c =>
      rw [hx] at hv he; cases he
      cases hv <;> exact ⟨_, by simp [builtin, Builtin.len_, hct, hca, run_underlying hu, goInt], .int _ _⟩
    | _ => rw [hx] at he; cases he
  · cases hx : ev tm ax with
    | nilm => rw [hx] at hv he; cases he; cases hv; exact ⟨_, by simp [builtin, Builtin.len_, hct, hca, run_underlying hu, goInt], .int _ _⟩
    | map i =>
      rw [hx] at hv he
      simp only at he
      cases hg : h.get i with
      | none => rw [hg] at he; cases he
      | some ob =>
        cases ob with
        | map es =>
          rw [hg] at he; cases he
          cases hv with
          | map hp =>
            rename_i p
            obtain ⟨_, _, _, ms, ck, hb, hes⟩ := hs.obj i _ _ hg hp
            have hget : (getObj p.blk).run P w = .ok (.map ms ck) w := by
              show (Sem.getObj p.blk Sem.pure).run P w = _
              simp only [Sem.run, hb]
            have hlen : es.length = ms.size := by
              have : ∀ {es : List (AV × AV)} {ms : List MapEntry}, EsR ρ es ms → es.length = ms.length := by
                intro es ms h; induction h with
                | nil => rfl
                | cons _ _ _ ih => simp [ih]
              rw [this hes]; rfl
            exact ⟨.int .i64 ms.size, by simp [builtin, Builtin.len_, hct, hca, run_underlying hu, hget, goInt], by rw [hlen]; exact .int _ _⟩
        | _ => rw [hg] at he; cases he
    | _ => rw [hx] at he; cases he

theorem q_maxmin {o : Oper} {cargs : Array Operand} {cts : Array TypeId} {xs : List AOpd} {vs : List Value} (hvs : VRs ρ (evs tm xs) vs) (hca : (cargs.map a.eval).toList = vs) {av : AV} :
    (o.op = .call ⟨.builtin .max, cargs, cts⟩ → evalQ (.mx xs) tm h = some av → QS P ρ w a o av) ∧ (o.op = .call ⟨.builtin .min, cargs, cts⟩ → evalQ (.mn xs) tm h = some av → QS P ρ w a o av) := by
  constructor
  · intro ho he
    rw [QS, exec_builtin ho]
    simp only [evalQ] at he
    cases hx : evs tm xs with
    | nil => rw [hx] at he; cases he
    | cons x r =>
      rw [hx] at he hvs
      cases hvs with
      | cons hv hr =>
        obtain ⟨v, h1, h2⟩ := maxs_run (P := P) (w := w) hv hr he
        exact ⟨v, by simp only [builtin, Builtin.max_, hca, Sem.run_bind, h1]; rfl, h2⟩
  · intro ho he
    rw [QS, exec_builtin ho]
    simp only [evalQ] at he
    cases hx : evs tm xs with
    | nil => rw [hx] at he; cases he
    | cons x r =>
      rw [hx] at he hvs
      cases hvs with
      | cons hv hr =>
        obtain ⟨v, h1, h2⟩ := mins_run (P := P) (w := w) hv hr he
        exact ⟨v, by simp only [builtin, Builtin.min_, hca, Sem.run_bind, h1]; rfl, h2⟩

theorem q_call (hs : Sim P ρ h B w) (ht : TR ρ tm a.tmps) {o : Oper} {c : Call} (ho : o.op = .call c) {ao : AOp} (htr : trCall P c = some ao) (hc : ao.cls = .q) {av : AV} (he : evalQ ao tm h = some av) : QS P ρ w a o av := by
  unfold trCall at htr
  cases hargs : trOpds c.args.toList with
  | none => rw [hargs] at htr; cases htr
  | some args =>
    rw [hargs] at htr
    have hvs := opds_sound ht hargs
    obtain ⟨callee, cargs, cts⟩ := c
    simp only at htr hargs hvs
    have hlist : (cargs.map a.eval).toList = cargs.toList.map a.eval := Array.toList_map ..
    split at htr
    · -- a value
      split at htr <;> cases htr
      simp [AOp.cls] at hc
    · cases htr
    · -- append
      split at htr <;> first | (cases htr; done) | skip
      split at htr <;> first | (cases htr; done) | skip
      all_goals (split at htr <;> first | (cases htr; done) | skip)
      all_goals (split at htr <;> cases htr)
      all_goals simp [AOp.cls] at hc
    · -- copy
      split at htr <;> first | (cases htr; done) | skip
      split at htr <;> first | (cases htr; done) | skip
      split at htr <;> first | (cases htr; done) | skip
      split at htr <;> cases htr
      simp [AOp.cls] at hc
    · -- len
      split at htr <;> first | (cases htr; done) | skip
      rename_i x t ts hcts
      have hct0 : cts[0]? = some t := by
        have : cts.toList[0]? = some t := by rw [hcts]; rfl
        simpa using this
      have hone : ∃ vx, cargs.map a.eval = #[vx] ∧ VR ρ (ev tm x) vx := by
        cases hl : cargs.toList.map a.eval with
        | nil => rw [hl] at hvs; cases hvs
        | cons vx vs =>
          rw [hl] at hvs
          cases hvs with
          | cons hv hvs' =>
            cases hvs'
            exact ⟨vx, by apply Array.ext'; rw [hlist, hl], hv⟩
      obtain ⟨vx, hca, hv⟩ := hone
      split at htr
      · cases htr; rename_i n e hu
        simp only [evalQ, Option.some.injEq] at he; subst he
        exact q_lenA ho hct0 hca (.inl ⟨e, hu⟩)
      · rename_i b hu
        split at htr
        · cases htr; rename_i n e hb
          simp only [evalQ, Option.some.injEq] at he; subst he
          exact q_lenA ho hct0 hca (.inr ⟨b, e, hu, hb⟩)
        · cases htr
      · cases htr; rename_i hu; exact q_len hs ho hct0 hca hv (.inl ⟨rfl, hu⟩) he
      · cases htr; rename_i e hu; exact q_len hs ho hct0 hca hv (.inr (.inl ⟨rfl, e, hu⟩)) he
      · cases htr; rename_i q e hu; exact q_len hs ho hct0 hca hv (.inr (.inr ⟨rfl, q, e, hu⟩)) he
      · cases htr
    · cases htr; exact (q_maxmin hvs hlist).1 ho he
    · cases htr; exact (q_maxmin hvs hlist).2 ho he
    · cases htr

/-- what an optional operand has -/
theorem opt_sound (ht : TR ρ tm a.tmps) {x : Option Operand} {ax : Option AOpd} (hx : trO x = some ax) {r : Option Int} (hr : optInt tm ax = some r) :
    (∀ n, r = some n → ∃ k, x.map a.eval = some (.int k n)) ∧ (r = none → x.map a.eval = none) := optInt_sound ht hx hr

theorem q_sound (hs : Sim P ρ h B w) (ht : TR ρ tm a.tmps) {o : Oper} {ao : AOp} (htr : trOp P o.op = some ao) (hc : ao.cls = .q) {av : AV} (he : evalQ ao tm h = some av) : QS P ρ w a o av := by
  cases hop : o.op with
  | move x =>
    rw [hop] at htr; simp only [trOp] at htr
    split at htr <;> cases htr
    rename_i ax hx
    simp only [evalQ, Option.some.injEq] at he; subst he
    exact q_move ht (.inl hop) hx
  | assign x =>
    rw [hop] at htr; simp only [trOp] at htr
    split at htr <;> cases htr
    rename_i ax hx
    simp only [evalQ, Option.some.injEq] at he; subst he
    exact q_move ht (.inr hop) hx
  | pick c x y =>
    rw [hop] at htr; simp only [trOp] at htr
    split at htr <;> cases htr
    rename_i ac ax ay h1 h2 h3
    have v1 := opd_sound ht h1
    simp only [evalQ] at he
    cases hx : ev tm ac with
    | bool b =>
      rw [hx] at he v1
      generalize hvc : a.eval c = vc at v1
      cases v1
      simp only [Option.some.injEq] at he; subst he
      cases b
      · exact ⟨_, by simp [execOp, hop, hvc, asBool], opd_sound ht h3⟩
      · exact ⟨_, by simp [execOp, hop, hvc, asBool], opd_sound ht h2⟩
    | _ => rw [hx] at he; cases he
  | alloc t => rw [hop] at htr; simp only [trOp] at htr; split at htr <;> cases htr; simp [AOp.cls] at hc
  | box t x => rw [hop] at htr; simp only [trOp] at htr; split at htr <;> cases htr; simp [AOp.cls] at hc
  | build t ps =>
    rw [hop] at htr; simp only [trOp] at htr
    split at htr
    · rename_i z l fs hz hl hu
      split at htr
      · rename_i hall
        split at htr <;> cases htr
        rename_i m hm
        simp only [evalQ] at he
        cases hf : fills z m tm with
        | none => rw [hf] at he; cases he
        | some c =>
          rw [hf] at he; cases he
          obtain ⟨zv, hz1, hz2⟩ := zeroOf_run hz ρ w
          obtain ⟨g1, g2⟩ := trParts_spec hl
          obtain ⟨k1, k2⟩ := partsS_spec hm
          have hinfo : ∀ f ∈ fs, ∃ i, P.info? f.type = some i := by
            intro f hf'
            have := (List.all_eq_true.1 hall) f (by simpa using hf')
            unfold sizeT at this
            cases hi : P.info? f.type with
            | none => simp [hi] at this
            | some i => exact ⟨i, rfl⟩
          obtain ⟨cs, f1, f2⟩ := fills_run ht (place := fun j => (fs.map fun f => (f.offset, P.cellsOf f.type))[j]?) ps.toList m z c zv.cells (fun k i x hk => by
            obtain ⟨ax, e1, e2⟩ := g2 k i x hk
            obtain ⟨f, n, e3, e4, e5⟩ := k2 k i ax e1
            refine ⟨f.offset, n, ax, e5, ?_, e2⟩
            have : P.cellsOf f.type = n := by
              unfold sizeT at e4; unfold Program.cellsOf
              cases hi : P.info? f.type with
              | none => simp [hi] at e4
              | some i => simp [hi] at e4; simp [e4]
            simp [e3, this]) (by rw [k1, g1]) hz2 hf
          refine ⟨.agg cs, ?_, .agg f2⟩
          have hpl : (ps.map fun (p : Nat × Operand) => (p.1, a.eval p.2)).toList = ps.toList.map fun p => (p.1, a.eval p.2) := Array.toList_map ..
          simp only [execOp, hop, Instr.build, Sem.run_bind, hz1, Result.andThen_ok, run_underlying hu, mapM_places fs hinfo]
          have : Instr.fill (fun x => (fs.map fun f => (f.offset, P.cellsOf f.type))[x]?) zv.cells (ps.map fun (p : Nat × Operand) => (p.1, a.eval p.2)).toList = some cs := by rw [hpl]; exact f1
          simp only [this, Sem.run_pure, Result.andThen_ok]
      · cases htr
    · rename_i z l n e hz hl hu
      split at htr <;> cases htr
      rename_i sz hsz
      simp only [evalQ] at he
      cases hf : fills z (l.map fun p => (p.1 * sz, sz, p.2)) tm with
      | none => rw [hf] at he; cases he
      | some c =>
        rw [hf] at he; cases he
        obtain ⟨zv, hz1, hz2⟩ := zeroOf_run hz ρ w
        obtain ⟨g1, g2⟩ := trParts_spec hl
        obtain ⟨cs, f1, f2⟩ := fills_run ht (place := fun i => some (i * sz, sz)) ps.toList _ z c zv.cells (fun k i x hk => by
          obtain ⟨ax, e1, e2⟩ := g2 k i x hk
          exact ⟨i * sz, sz, ax, by simp [e1], rfl, e2⟩) (by simp [g1]) hz2 hf
        refine ⟨.agg cs, ?_, .agg f2⟩
        have hpl : (ps.map fun (p : Nat × Operand) => (p.1, a.eval p.2)).toList = ps.toList.map fun p => (p.1, a.eval p.2) := Array.toList_map ..
        simp only [execOp, hop, Instr.build, Sem.run_bind, hz1, Result.andThen_ok, run_underlying hu, sizeT_run hsz]
        have : Instr.fill (fun i => some (i * sz, sz)) zv.cells (ps.map fun (p : Nat × Operand) => (p.1, a.eval p.2)).toList = some cs := by rw [hpl]; exact f1
        simp only [this, Sem.run_pure, Result.andThen_ok]
    · cases htr
  | buildSlice t n ps =>
    rw [hop] at htr; simp only [trOp] at htr
    split at htr <;> first | (cases htr; done) | skip
    split at htr <;> first | (cases htr; done) | skip
    split at htr <;> cases htr
    simp [AOp.cls] at hc
  | load t x =>
    rw [hop] at htr; simp only [trOp] at htr
    split at htr <;> cases htr
    rename_i n ax hn hx
    exact q_load hs ht hop hn hx he
  | store t x y => rw [hop] at htr; simp only [trOp] at htr; split at htr <;> cases htr; simp [AOp.cls] at hc
  | nilCheck x =>
    rw [hop] at htr; simp only [trOp] at htr
    split at htr <;> cases htr
    rename_i ax hx
    have hv := opd_sound ht hx
    simp only [evalQ] at he
    generalize hvx : a.eval x = vx at hv
    split at he
    · rename_i i off heq
      rw [heq] at hv; cases he
      cases hv with
      | ptr hp => exact ⟨_, by simp [execOp, hop, hvx], .ptr hp⟩
    · rename_i f x y heq
      rw [heq] at hv; cases he
      cases hv with
      | fn hf h1 h2 => exact ⟨_, by simp [execOp, hop, hvx], .fn hf h1 h2⟩
    · rename_i f x y heq
      rw [heq] at hv; cases he
      cases hv with
      | fn hf h1 h2 => exact absurd rfl (hf _)
      | yld hp => exact ⟨_, by simp [execOp, hop, hvx], .yld hp⟩
    · cases he
  | binOp op t x y t' =>
    rw [hop] at htr; simp only [trOp] at htr
    split at htr <;> cases htr
    rename_i ax ay hx hy
    exact q_bin ht hop hx hy he
  | unOp op t x =>
    rw [hop] at htr; simp only [trOp] at htr
    split at htr <;> cases htr
    rename_i ax hx
    exact q_un ht hop hx he
  | convert s d x =>
    rw [hop] at htr; simp only [trOp] at htr
    split at htr
    · rename_i sd k ax h1 h2 h3
      cases htr
      have hv := opd_sound ht h3
      simp only [evalQ] at he
      generalize hvx : a.eval x = vx at hv
      split at he
      · rename_i k' n heq
        rw [heq] at hv; cases hv; cases he
        rw [awrap_eq]
        exact ⟨_, by simp [execOp, hop, hvx, convert, run_underlying h1, run_underlying h2, Conv.intToInt], .int _ _⟩
      · cases he
    · rename_i ax h1 h2 h3
      cases htr
      have hv := opd_sound ht h3
      simp only [evalQ, optInt] at he
      generalize hvx : a.eval x = vx at hv
      cases hx : ev tm ax with
      | str l =>
        rw [hx] at he hv
        have hb : bounds l.length l.length none none none = some (0, l.length, l.length) := by
          unfold bounds; simp
        simp only [hb] at he
        simp at he
        subst he
        cases hv with
        | str hl => exact ⟨_, by simp [execOp, hop, hvx, convert, run_underlying h1, run_underlying h2], .str hl⟩
      | _ => rw [hx] at he; cases he
    · rename_i e ax h1 h2 h3
      split at htr <;> cases htr
      simp [AOp.cls] at hc
    · rename_i e ax h1 h2 h3
      split at htr <;> cases htr
      rename_i he8
      obtain ⟨v, k1, k2⟩ := q_toStr hs (opd_sound ht h3) he
      refine ⟨v, ?_, k2⟩
      have hv := opd_sound ht h3
      simp only [evalQ] at he
      generalize hvx : a.eval x = vx at hv k1
      cases hx : ev tm ax with
      | nils => rw [hx] at hv; cases hv; simp [execOp, hop, hvx, convert, run_underlying h1, run_underlying h2, run_underlying he8, k1]
      | slice i off n c => rw [hx] at hv; cases hv <;> simp [execOp, hop, hvx, convert, run_underlying h1, run_underlying h2, run_underlying he8, k1]
      | _ => rw [hx] at he; cases he
    · cases htr
  | sliceToArrayPointer _ _ => rw [hop] at htr; cases htr
  | makeInterface t x =>
    rw [hop] at htr; simp only [trOp] at htr
    split at htr
    · cases htr
    · rename_i d ax hni h1 h2
      cases htr
      simp only [evalQ, Option.some.injEq] at he; subst he
      refine ⟨.iface t (a.eval x), ?_, .iface (opd_sound ht h2)⟩
      simp only [execOp, hop, Instr.makeInterface, Sem.run_bind, run_underlying h1, Result.andThen_ok]
      cases d <;> first | exact absurd h1 (hni _) | simp
    · cases htr
  | makeFunc fn first captured =>
    rw [hop] at htr
    cases fn with
    | func f =>
      simp only [trOp] at htr
      split at htr <;> cases htr
      rename_i x y h1 h2
      simp only [evalQ, Option.some.injEq] at he; subst he
      refine ⟨.func (.func f) (first.map a.eval) (captured.map a.eval), by simp [execOp, hop, Instr.makeFunc], .fn (fun _ e => by cases e) ?_ ?_⟩
      · rw [Array.toList_map]; exact opds_sound ht h1
      · rw [Array.toList_map]; exact opds_sound ht h2
    | _ => simp [trOp] at htr
  | makeMap t r =>
    rw [hop] at htr
    cases r with
    | none => simp only [trOp, Option.some.injEq] at htr; subst htr; simp [AOp.cls] at hc
    | some _ => simp [trOp] at htr
  | makeChan _ _ => rw [hop] at htr; cases htr
  | makeSlice t l c =>
    rw [hop] at htr; simp only [trOp] at htr
    split at htr <;> first | (cases htr; done) | skip
    split at htr <;> first | (cases htr; done) | skip
    split at htr <;> cases htr
    simp [AOp.cls] at hc
  | slice t x lo hi mx =>
    rw [hop] at htr; simp only [trOp] at htr
    split at htr <;> first | (cases htr; done) | skip
    rename_i ax alo ahi amx hx hlo hhi hmx
    have hv := opd_sound ht hx
    split at htr
    · rename_i n e hu
      split at htr <;> cases htr
      rename_i sz hsz
      simp only [evalQ] at he
      split at he <;> first | (cases he; done) | skip
      rename_i l hh m i off e1 e2 e3 e4
      rw [e4] at hv
      generalize hvx : a.eval x = vx at hv
      cases hv with
      | ptr hp =>
        split at he <;> cases he
        rename_i l' h' m' hb
        obtain ⟨p1, p1'⟩ := opt_sound ht hlo e1
        obtain ⟨p2, p2'⟩ := opt_sound ht hhi e2
        obtain ⟨p3, p3'⟩ := opt_sound ht hmx e3
        obtain ⟨v, k1, k2⟩ := q_sliceA (P := P) (w := w) (t := t) hsz hp (off := off) p1 p1' p2 p2' p3 p3' hb (.inl hu)
        exact ⟨v, by simp [execOp, hop, hvx, k1], k2⟩
    · rename_i hu
      split at htr <;> cases htr
      simp only [evalQ] at he
      split at he <;> first | (cases he; done) | skip
      rename_i l hh s e1 e2 e3
      rw [e3] at hv
      generalize hvx : a.eval x = vx at hv
      cases hv with
      | str hs' =>
        rename_i bs
        split at he <;> cases he
        rename_i l' h' m' hb
        obtain ⟨p1, p1'⟩ := opt_sound ht hlo e1
        obtain ⟨p2, p2'⟩ := opt_sound ht hhi e2
        have hmn : mx = none := by
          cases mx with
          | none => rfl
          | some y => simp only [trO] at hmx; split at hmx <;> cases hmx
        subst hmn
        have hlen : s.length = bs.size := by rw [← hs', List.length_map]; rfl
        rw [hlen] at hb
        have hr := bounds_run (P := P) (w := w) (isSlice := false) (vmx := none) hb p1 p1' p2 p2' (fun _ e => by cases e) (fun _ => rfl)
        refine ⟨.string (bs.extract l' h'), by simp [execOp, hop, hvx, Instr.sliceAt, run_underlying hu, Instr.slice, hr], .str ?_⟩
        rw [← hs']
        simp [ByteArray.data_extract, Array.toList_extract, List.extract, List.map_take, List.map_drop]
    · rename_i e hu
      split at htr
      · rename_i sz hsz
        split at htr <;> cases htr
        simp only [evalQ] at he
        split at he <;> first | (cases he; done) | skip
        rename_i l hh m e1 e2 e3
        obtain ⟨p1, p1'⟩ := opt_sound ht hlo e1
        obtain ⟨p2, p2'⟩ := opt_sound ht hhi e2
        obtain ⟨p3, p3'⟩ := opt_sound ht hmx e3
        obtain ⟨v, k1, k2⟩ := q_slice hs hu hsz hv p1 p1' p2 p2' p3 p3' he
        exact ⟨v, by simp [execOp, hop, Instr.sliceAt, run_underlying hu, k1], k2⟩
      · cases htr
    · rename_i b hu
      split at htr
      · rename_i n e hb0
        split at htr <;> cases htr
        rename_i sz hsz
        simp only [evalQ] at he
        split at he <;> first | (cases he; done) | skip
        rename_i l hh m i off e1 e2 e3 e4
        rw [e4] at hv
        generalize hvx : a.eval x = vx at hv
        cases hv with
        | ptr hp =>
          split at he <;> cases he
          rename_i l' h' m' hb
          obtain ⟨p1, p1'⟩ := opt_sound ht hlo e1
          obtain ⟨p2, p2'⟩ := opt_sound ht hhi e2
          obtain ⟨p3, p3'⟩ := opt_sound ht hmx e3
          obtain ⟨v, k1, k2⟩ := q_sliceA (P := P) (w := w) (t := t) hsz hp (off := off) p1 p1' p2 p2' p3 p3' hb (.inr ⟨b, hu, hb0⟩)
          exact ⟨v, by simp [execOp, hop, hvx, k1], k2⟩
      · cases htr
    · cases htr
  | fieldAddr s x f =>
    rw [hop] at htr; simp only [trOp] at htr
    split at htr <;> first | (cases htr; done) | skip
    rename_i fs ax hu hx
    split at htr <;> first | (cases htr; done) | skip
    rename_i fl hfl
    split at htr <;> cases htr
    rename_i n hn
    have hv := opd_sound ht hx
    simp only [evalQ] at he
    generalize hvx : a.eval x = vx at hv
    split at he <;> cases he
    rename_i i off heq
    rw [heq] at hv
    cases hv with
    | ptr hp =>
      refine ⟨_, by simp [execOp, hop, hvx, Instr.fieldAt, run_underlying hu, hfl, Instr.sureAddr, fieldPlace, sizeT_run hn]; rfl, ?_⟩
      rw [Addr.add_plain, Nat.add_assoc]; exact .ptr hp
  | field t x f =>
    rw [hop] at htr; simp only [trOp] at htr
    split at htr <;> first | (cases htr; done) | skip
    rename_i fs ax hu hx
    split at htr <;> first | (cases htr; done) | skip
    rename_i fl hfl
    split at htr <;> cases htr
    rename_i n hn
    have hv := opd_sound ht hx
    simp only [evalQ] at he
    generalize hvx : a.eval x = vx at hv
    split at he <;> first | (cases he; done) | skip
    rename_i cs heq
    rw [heq] at hv
    cases hv with
    | agg hcs =>
      obtain ⟨v, k1, k2⟩ := fit_part (P := P) (w := w) hcs hn he
      exact ⟨v, by simp [execOp, hop, hvx, Instr.field, run_underlying hu, hfl, asAgg, k1], k2⟩
  | indexAddr t x i =>
    rw [hop] at htr; simp only [trOp] at htr
    split at htr
    · rename_i n e ax ai hu hx hi
      split at htr <;> cases htr
      rename_i sz hsz
      have hv := opd_sound ht hx
      have hvi := opd_sound ht hi
      simp only [evalQ] at he
      generalize hvx : a.eval x = vx at hv
      generalize hvy : a.eval i = vy at hvi
      split at he <;> first | (cases he; done) | skip
      rename_i j off k m e1 e2
      rw [e1] at hv; rw [e2] at hvi; cases hvi
      split at he <;> cases he
      rename_i hb
      cases hv with
      | ptr hp =>
        refine ⟨_, by simp [execOp, hop, hvx, hvy, Instr.indexAt, asIntOf, run_underlying hu, Instr.sureAddr, hb, sizeT_run hsz]; rfl, ?_⟩
        rw [Addr.add_plain, Nat.add_assoc]; exact .ptr hp
    · rename_i e ax ai hu hx hi
      split at htr <;> cases htr
      rename_i sz hsz
      have hv := opd_sound ht hx
      have hvi := opd_sound ht hi
      simp only [evalQ] at he
      generalize hvx : a.eval x = vx at hv
      generalize hvy : a.eval i = vy at hvi
      split at he <;> first | (cases he; done) | skip
      rename_i j off n cp k m e1 e2
      rw [e1] at hv; rw [e2] at hvi; cases hvi
      split at he <;> cases he
      rename_i hb
      have fin : ∀ (p : Place) (c : Nat), ρ j = some p → vx = .slice (some ⟨p.blk, p.base + off, none⟩) n c → QS P ρ w a o (.ptr j (off + m.toNat * sz)) := by
        intro p c hp e
        subst e
        refine ⟨_, by simp [execOp, hop, hvx, hvy, Instr.indexAt, asIntOf, run_underlying hu, hb, sizeT_run hsz]; rfl, ?_⟩
        rw [Addr.add_plain, Nat.add_assoc]; exact .ptr hp
      cases hv with
      | slx hp _ => exact fin _ _ hp rfl
      | slo hp _ _ => exact fin _ _ hp rfl
      | sle ad hp _ => omega
    · cases htr
  | index t x i =>
    rw [hop] at htr; simp only [trOp] at htr
    split at htr
    · rename_i n e ax ai hu hx hi
      split at htr <;> cases htr
      rename_i sz l hsz hl
      have hv := opd_sound ht hx
      have hvi := opd_sound ht hi
      simp only [evalQ] at he
      generalize hvx : a.eval x = vx at hv
      generalize hvy : a.eval i = vy at hvi
      split at he <;> first | (cases he; done) | skip
      rename_i cs k m e1 e2
      rw [e1] at hv; rw [e2] at hvi; cases hvi
      split at he <;> first | (cases he; done) | skip
      rename_i hb
      cases hv with
      | agg hcs =>
        obtain ⟨v, k1, k2⟩ := fit_part (P := P) (w := w) hcs hl he
        exact ⟨v, by simp [execOp, hop, hvx, hvy, Instr.index, asIntOf, run_underlying hu, hb, sizeT_run hsz, k1], k2⟩
    · rename_i ax ai hu hx hi
      cases htr
      have hv := opd_sound ht hx
      have hvi := opd_sound ht hi
      simp only [evalQ] at he
      generalize hvx : a.eval x = vx at hv
      generalize hvy : a.eval i = vy at hvi
      split at he <;> first | (cases he; done) | skip
      rename_i s k m e1 e2
      rw [e1] at hv; rw [e2] at hvi; cases hvi
      split at he <;> first | (cases he; done) | skip
      rename_i hm
      cases hv with
      | str hs' =>
        rename_i bs
        split at he <;> cases he
        rename_i b hb
        rw [← hs', List.getElem?_map] at hb
        cases hg : bs.data.toList[m.toNat]? with
        | none => rw [hg] at hb; cases hb
        | some u =>
          rw [hg] at hb; simp at hb; subst hb
          have hlt : m.toNat < bs.size := by have := (List.getElem?_eq_some_iff.1 hg).1; simpa using this
          have hget : bs[m.toNat]? = some u := by
            rw [getElem?_pos bs m.toNat hlt]
            have := (List.getElem?_eq_some_iff.1 hg).2
            congr 1
          exact ⟨_, by simp [execOp, hop, hvx, hvy, Instr.index, asIntOf, run_underlying hu, hm, hget], .int _ _⟩
    · cases htr
  | lookup t m k ok =>
    rw [hop] at htr; simp only [trOp] at htr
    split at htr <;> first | (cases htr; done) | skip
    rename_i kt e am ak hu hm hk
    split at htr <;> cases htr
    rename_i ks z hkt hz
    obtain ⟨v, k1, k2⟩ := q_lookup hs hu hkt hz (opd_sound ht hm) (opd_sound ht hk) he
    exact ⟨v, by simp [execOp, hop, k1], k2⟩
  | mapUpdate t m k v =>
    rw [hop] at htr; simp only [trOp] at htr
    split at htr <;> first | (cases htr; done) | skip
    split at htr <;> cases htr
    simp [AOp.cls] at hc
  | insert t m k v =>
    rw [hop] at htr; simp only [trOp] at htr
    split at htr <;> first | (cases htr; done) | skip
    split at htr <;> cases htr
    simp [AOp.cls] at hc
  | extract x i =>
    rw [hop] at htr; simp only [trOp] at htr
    split at htr <;> cases htr
    rename_i ax hx
    have hv := opd_sound ht hx
    simp only [evalQ] at he
    generalize hvx : a.eval x = vx at hv
    split at he <;> first | (cases he; done) | skip
    rename_i vs heq
    rw [heq] at hv
    cases hv with
    | tup hvs =>
      rename_i us
      obtain ⟨y, h1, h2⟩ := VRs.get hvs he
      have h1' : us[i]? = some y := by simpa using h1
      exact ⟨y, by simp [execOp, hop, hvx, Instr.extract, h1'], h2⟩
  | call c => rw [hop] at htr; exact q_call hs ht hop htr hc he
  | _ => rw [hop] at htr; cases htr

end
end Go.AM
