/- A function's code with other temporaries: fewer, and without mere moves. What the new code computes the old one computes. No condition. -/
import Derived.Test.YtemmnocgkgoegaaAm28
namespace Go.AM
open Go

def AOpd.map (σ : Nat → AOpd) : AOpd → AOpd
  | .tmp t => σ t
  | .lit v => .lit v
def mapL (σ : Nat → AOpd) : List AOpd → List AOpd
  | [] => []
  | x :: r => x.map σ :: mapL σ r
def mapO (σ : Nat → AOpd) : Option AOpd → Option AOpd
  | none => none
  | some x => some (x.map σ)
def mapP (σ : Nat → AOpd) : List (Nat × AOpd) → List (Nat × AOpd)
  | [] => []
  | (i, x) :: r => (i, x.map σ) :: mapP σ r
def mapF (σ : Nat → AOpd) : List (Nat × Nat × AOpd) → List (Nat × Nat × AOpd)
  | [] => []
  | (o, n, x) :: r => (o, n, x.map σ) :: mapF σ r
def AOp.map (σ : Nat → AOpd) : AOp → AOp
  | .mov x => .mov (x.map σ)
  | .pick c a b => .pick (c.map σ) (a.map σ) (b.map σ)
  | .alloc z => .alloc z
  | .box x => .box (x.map σ)
  | .build z ps => .build z (mapF σ ps)
  | .bslice l s z ps => .bslice l s z (mapP σ ps)
  | .load n a => .load n (a.map σ)
  | .store n a x => .store n (a.map σ) (x.map σ)
  | .nilck x => .nilck (x.map σ)
  | .bin op e x y => .bin op e (x.map σ) (y.map σ)
  | .un op x => .un op (x.map σ)
  | .toInt k x => .toInt k (x.map σ)
  | .toStr x => .toStr (x.map σ)
  | .toBytes x => .toBytes (x.map σ)
  | .iface t x => .iface t (x.map σ)
  | .mkfn f fs cs => .mkfn f (mapL σ fs) (mapL σ cs)
  | .mkmap => .mkmap
  | .mkslice s b z l c => .mkslice s b z (l.map σ) (c.map σ)
  | .slice s x lo hi up => .slice s (x.map σ) (mapO σ lo) (mapO σ hi) (mapO σ up)
  | .sliceA n s x lo hi up => .sliceA n s (x.map σ) (mapO σ lo) (mapO σ hi) (mapO σ up)
  | .substr x lo hi => .substr (x.map σ) (mapO σ lo) (mapO σ hi)
  | .faddr o x => .faddr o (x.map σ)
  | .field o n x => .field o n (x.map σ)
  | .iaddr a s x i => .iaddr a s (x.map σ) (i.map σ)
  | .index l s n x i => .index l s n (x.map σ) (i.map σ)
  | .indexS x i => .indexS (x.map σ) (i.map σ)
  | .lookup k z o m x => .lookup k z o (m.map σ) (x.map σ)
  | .mupd k m x v => .mupd k (m.map σ) (x.map σ) (v.map σ)
  | .extr i x => .extr i (x.map σ)
  | .call f args => .call (f.map σ) (mapL σ args)
  | .append s b z x y => .append s b z (x.map σ) (y.map σ)
  | .copy s d x => .copy s (d.map σ) (x.map σ)
  | .len k x => .len k (x.map σ)
  | .lenA n => .lenA n
  | .mx xs => .mx (mapL σ xs)
  | .mn xs => .mn (mapL σ xs)
theorem AOp.cls_map (σ : Nat → AOpd) (op : AOp) : (op.map σ).cls = op.cls := by cases op <;> rfl

section
variable {tm tm' : List AV} {h : AHeap} {σ : Nat → AOpd}
theorem ev_map {x : AOpd} (hx : ∀ t ∈ x.temps, ev tm' (σ t) = nth tm t) : ev tm' (x.map σ) = ev tm x := by
  cases x with
  | tmp t => exact hx t (by simp [AOpd.temps])
  | lit v => rfl
theorem evs_map : ∀ {l : List AOpd}, (∀ t ∈ tempsL l, ev tm' (σ t) = nth tm t) → evs tm' (mapL σ l) = evs tm l
  | [], _ => rfl
  | x :: r, hx => by
    have h1 := ev_map (x := x) fun t ht => hx t (List.mem_append_left _ ht)
    have h2 := evs_map (l := r) fun t ht => hx t (List.mem_append_right _ ht)
    simp only [mapL, evs, h1, h2]
theorem optInt_map {x : Option AOpd} (hx : ∀ t ∈ tempsO x, ev tm' (σ t) = nth tm t) : optInt tm' (mapO σ x) = optInt tm x := by
  cases x with
  | none => rfl
  | some x => simp only [mapO, optInt]; rw [ev_map hx]
theorem fills_map : ∀ {ps : List (Nat × Nat × AOpd)} {z : List AV}, (∀ t ∈ tempsF ps, ev tm' (σ t) = nth tm t) → fills z (mapF σ ps) tm' = fills z ps tm
  | [], _, _ => rfl
  | (o, n, x) :: r, z, hx => by
    have h1 := ev_map (x := x) fun t ht => hx t (List.mem_append_left _ ht)
    have h2 : ∀ z, fills z (mapF σ r) tm' = fills z r tm := fun z => fills_map fun t ht => hx t (List.mem_append_right _ ht)
    simp only [mapF, fills, h1, h2]
theorem fillsS_map {sz : Nat} : ∀ {ps : List (Nat × AOpd)} {z : List AV}, (∀ t ∈ tempsP ps, ev tm' (σ t) = nth tm t) → fillsS sz z (mapP σ ps) tm' = fillsS sz z ps tm
  | [], _, _ => rfl
  | (i, x) :: r, z, hx => by
    have h1 := ev_map (x := x) fun t ht => hx t (List.mem_append_left _ ht)
    have h2 : ∀ z, fillsS sz z (mapP σ r) tm' = fillsS sz z r tm := fun z => fillsS_map fun t ht => hx t (List.mem_append_right _ ht)
    simp only [mapP, fillsS, h1, h2]

theorem evalQ_map {op : AOp} (hx : ∀ t ∈ op.temps, ev tm' (σ t) = nth tm t) : evalQ (op.map σ) tm' h = evalQ op tm h := by
  cases op with
  | mov x => simp only [AOp.map, evalQ, ev_map hx]
  | pick c x y =>
    simp only [AOp.temps, List.mem_append] at hx
    simp only [AOp.map, evalQ, ev_map (x := c) fun t ht => hx t (.inl ht), ev_map (x := x) fun t ht => hx t (.inr (.inl ht)), ev_map (x := y) fun t ht => hx t (.inr (.inr ht))]
  | build z ps => simp only [AOp.map, evalQ, fills_map hx]
  | load n x => simp only [AOp.map, evalQ, ev_map hx]
  | nilck x => simp only [AOp.map, evalQ, ev_map hx]
  | bin op e x y =>
    simp only [AOp.temps, List.mem_append] at hx
    simp only [AOp.map, evalQ, ev_map (x := x) fun t ht => hx t (.inl ht), ev_map (x := y) fun t ht => hx t (.inr ht)]
  | un op x => simp only [AOp.map, evalQ, ev_map hx]
  | toInt k x => simp only [AOp.map, evalQ, ev_map hx]
  | toStr x => simp only [AOp.map, evalQ, ev_map hx]
  | iface t x => simp only [AOp.map, evalQ, ev_map hx]
  | mkfn f fs cs =>
    simp only [AOp.temps, List.mem_append] at hx
    simp only [AOp.map, evalQ, evs_map (l := fs) fun t ht => hx t (.inl ht), evs_map (l := cs) fun t ht => hx t (.inr ht)]
  | slice sz x lo hi up =>
    simp only [AOp.temps, List.mem_append] at hx
    simp only [AOp.map, evalQ, ev_map (x := x) fun t ht => hx t (.inl ht), optInt_map (x := lo) fun t ht => hx t (.inr (.inl ht)), optInt_map (x := hi) fun t ht => hx t (.inr (.inr (.inl ht))), optInt_map (x := up) fun t ht => hx t (.inr (.inr (.inr ht)))]
  | sliceA n sz x lo hi up =>
    simp only [AOp.temps, List.mem_append] at hx
    simp only [AOp.map, evalQ, ev_map (x := x) fun t ht => hx t (.inl ht), optInt_map (x := lo) fun t ht => hx t (.inr (.inl ht)), optInt_map (x := hi) fun t ht => hx t (.inr (.inr (.inl ht))), optInt_map (x := up) fun t ht => hx t (.inr (.inr (.inr ht)))]
  | substr x lo hi =>
    simp only [AOp.temps, List.mem_append] at hx
    simp only [AOp.map, evalQ, ev_map (x := x) fun t ht => hx t (.inl ht), optInt_map (x := lo) fun t ht => hx t (.inr (.inl ht)), optInt_map (x := hi) fun t ht => hx t (.inr (.inr ht))]
  | faddr off x => simp only [AOp.map, evalQ, ev_map hx]
  | field off n x => simp only [AOp.map, evalQ, ev_map hx]
  | iaddr arr sz x i =>
    simp only [AOp.temps, List.mem_append] at hx
    cases arr <;> simp only [AOp.map, evalQ, ev_map (x := x) fun t ht => hx t (.inl ht), ev_map (x := i) fun t ht => hx t (.inr ht)]
  | index len sz n x i =>
    simp only [AOp.temps, List.mem_append] at hx
    simp only [AOp.map, evalQ, ev_map (x := x) fun t ht => hx t (.inl ht), ev_map (x := i) fun t ht => hx t (.inr ht)]
  | indexS x i =>
    simp only [AOp.temps, List.mem_append] at hx
    simp only [AOp.map, evalQ, ev_map (x := x) fun t ht => hx t (.inl ht), ev_map (x := i) fun t ht => hx t (.inr ht)]
  | lookup ks z ok m k =>
    simp only [AOp.temps, List.mem_append] at hx
    simp only [AOp.map, evalQ, ev_map (x := m) fun t ht => hx t (.inl ht), ev_map (x := k) fun t ht => hx t (.inr ht)]
  | extr i x => simp only [AOp.map, evalQ, ev_map hx]
  | len k x => simp only [AOp.map, evalQ, ev_map hx]
  | lenA n => rfl
  | mx xs => simp only [AOp.map, evalQ, evs_map hx]
  | mn xs => simp only [AOp.map, evalQ, evs_map hx]
  | _ => rfl

theorem evalA_map {op : AOp} (hx : ∀ t ∈ op.temps, ev tm' (σ t) = nth tm t) : evalA (op.map σ) tm' h = evalA op tm h := by
  cases op with
  | box x => simp only [AOp.map, evalA, ev_map hx]
  | bslice len sz z ps => simp only [AOp.map, evalA, fillsS_map hx]
  | mkslice sz b z l c =>
    simp only [AOp.temps, List.mem_append] at hx
    simp only [AOp.map, evalA, ev_map (x := l) fun t ht => hx t (.inl ht), ev_map (x := c) fun t ht => hx t (.inr ht)]
  | toBytes x => simp only [AOp.map, evalA, ev_map hx]
  | _ => rfl

theorem evalE_map {op : AOp} {call : CallT} (hx : ∀ t ∈ op.temps, ev tm' (σ t) = nth tm t) : evalE (op.map σ) call tm' h = evalE op call tm h := by
  cases op with
  | store n x y =>
    simp only [AOp.temps, List.mem_append] at hx
    simp only [AOp.map, evalE, ev_map (x := x) fun t ht => hx t (.inl ht), ev_map (x := y) fun t ht => hx t (.inr ht)]
  | mupd ks m k v =>
    simp only [AOp.temps, List.mem_append] at hx
    simp only [AOp.map, evalE, ev_map (x := m) fun t ht => hx t (.inl ht), ev_map (x := k) fun t ht => hx t (.inr (.inl ht)), ev_map (x := v) fun t ht => hx t (.inr (.inr ht))]
  | call f args =>
    simp only [AOp.temps, List.mem_append] at hx
    simp only [AOp.map, evalE, ev_map (x := f) fun t ht => hx t (.inl ht), evs_map (l := args) fun t ht => hx t (.inr ht)]
  | append sz b z x y =>
    simp only [AOp.temps, List.mem_append] at hx
    simp only [AOp.map, evalE, ev_map (x := x) fun t ht => hx t (.inl ht), ev_map (x := y) fun t ht => hx t (.inr ht)]
  | copy sz x y =>
    simp only [AOp.temps, List.mem_append] at hx
    simp only [AOp.map, evalE, ev_map (x := x) fun t ht => hx t (.inl ht), ev_map (x := y) fun t ht => hx t (.inr ht)]
  | _ => rfl


end

/-- an operation's answer and heap -/
noncomputable def val (op : AOp) (call : CallT) (tm : List AV) (h : AHeap) : Option (AV × AHeap) := match op.cls with
  | .q => match evalQ op tm h with | some v => some (v, h) | none => none
  | .a => match evalA op tm h with | some (b, v) => some (v, h.push b) | none => none
  | .e => evalE op call tm h
theorem step1_val (o : AOper) (call : CallT) (s : St) : step1 o call s = (match val o.op call s.tm s.h with | some (v, h') => some ⟨putD s.tm o.dst v, h'⟩ | none => none) := by
  unfold val
  cases hc : o.op.cls with
  | q => rw [step1_q hc]; dsimp only; cases evalQ o.op s.tm s.h <;> rfl
  | a => rw [step1_a hc]; dsimp only; cases evalA o.op s.tm s.h <;> rfl
  | e => rw [step1_e hc]; rfl
theorem val_map {tm tm' : List AV} {h : AHeap} {σ : Nat → AOpd} {c c' : CallT} (hl : Le c' c) {op : AOp} (hx : ∀ t ∈ op.temps, ev tm' (σ t) = nth tm t) {r : AV × AHeap} (he : val (op.map σ) c' tm' h = some r) : val op c tm h = some r := by
  unfold val at he ⊢
  rw [AOp.cls_map, evalQ_map hx, evalA_map hx, evalE_map hx] at he
  cases hc : op.cls with
  | q => rw [hc] at he; exact he
  | a => rw [hc] at he; exact he
  | e => rw [hc] at he; exact evalE_le hl he

abbrev Mp := List (Nat × AOpd)
def Mp.get : Mp → Nat → Option AOpd
  | [], _ => none
  | (k, x) :: r, t => bif Nat.beq k t then some x else Mp.get r t
theorem Mp.get_mem : ∀ {M : Mp} {t : Nat} {x : AOpd}, M.get t = some x → (t, x) ∈ M
  | (k, y) :: r, t, x, h => by
    unfold Mp.get at h
    cases hb : Nat.beq k t with
    | true => rw [hb] at h; cases h; rw [Nat.eq_of_beq_eq_true hb]; exact .head _
    | false => rw [hb] at h; exact .tail _ (Mp.get_mem h)
def Mp.sub (M : Mp) (t : Nat) : AOpd := match M.get t with | some x => x | none => .lit aundef
def isT' (r : Nat) : AOpd → Bool
  | .tmp t => Nat.beq t r
  | .lit _ => false
/-- place d takes a new value -/
def Mp.drop1 (M : Mp) (d : Nat) : Mp := M.filter fun p => !Nat.beq p.1 d
def Mp.keep (M : Mp) (d r : Nat) : Mp := (d, .tmp r) :: (M.drop1 d).filter fun p => !isT' r p.2
structure R (nt nt' : Nat) (M : Mp) (tm tm' : List AV) : Prop where
  l : nt ≤ tm.length
  l' : nt' ≤ tm'.length
  eq : ∀ t x, (t, x) ∈ M → nth tm t = ev tm' x
theorem put_len (tm : List AV) : ∀ (d : Nat) (v : AV), (put tm d v).length = tm.length := by
  induction tm with
  | nil => intro d v; rfl
  | cons x r ih => intro d v; cases d with
    | zero => rfl
    | succ d => rw [put_succ]; simp [ih]
theorem nth_put (tm : List AV) : ∀ (d t : Nat) (v : AV), d < tm.length → nth (put tm d v) t = if t = d then v else nth tm t := by
  induction tm with
  | nil => intro d t v h; simp at h
  | cons x r ih => intro d t v h; cases d with
    | zero => cases t with
      | zero => rfl
      | succ t => rw [put_zero]; simp [nth_succ]
    | succ d => cases t with
      | zero => rw [put_succ, nth_zero, nth_zero, if_neg (by omega)]
      | succ t => rw [put_succ, nth_succ, nth_succ, ih d t v (by simpa using h)]; simp
theorem R.ok {nt nt' : Nat} {M : Mp} {tm tm' : List AV} (h : R nt nt' M tm tm') {t : Nat} (ht : (M.get t).isSome = true) : ev tm' (M.sub t) = nth tm t := by
  unfold Mp.sub
  cases hg : M.get t with
  | none => rw [hg] at ht; cases ht
  | some x => exact (h.eq t x (Mp.get_mem hg)).symm
theorem R.puts {nt nt' : Nat} {M : Mp} {tm tm' : List AV} (h : R nt nt' M tm tm') {d r : Nat} (hd : d < nt) (hr : r < nt') (v : AV) : R nt nt' (M.keep d r) (put tm d v) (put tm' r v) := by
  refine ⟨by rw [put_len]; exact h.l, by rw [put_len]; exact h.l', ?_⟩
  intro t x hm
  have e1 := nth_put tm d t v (Nat.lt_of_lt_of_le hd h.l)
  unfold Mp.keep at hm
  rcases List.mem_cons.1 hm with e | hm
  · cases e
    rw [e1, if_pos rfl]
    show v = nth (put tm' r v) r
    rw [nth_put tm' r r v (Nat.lt_of_lt_of_le hr h.l'), if_pos rfl]
  · obtain ⟨hm, h2⟩ := List.mem_filter.1 hm
    unfold Mp.drop1 at hm
    obtain ⟨hm, h3⟩ := List.mem_filter.1 hm
    have hne : t ≠ d := by
      intro e; subst e; simp at h3
    rw [e1, if_neg hne, h.eq t x hm]
    cases x with
    | lit v => rfl
    | tmp t' =>
      show nth tm' t' = nth (put tm' r v) t'
      have hne2 : t' ≠ r := by
        intro e; subst e; simp [isT'] at h2
      rw [nth_put tm' r t' v (Nat.lt_of_lt_of_le hr h.l'), if_neg hne2]
theorem R.mov {nt nt' : Nat} {M : Mp} {tm tm' : List AV} (h : R nt nt' M tm tm') {d : Nat} (hd : d < nt) {v : AV} {x : AOpd} (hx : ev tm' x = v) : R nt nt' ((d, x) :: M.drop1 d) (AM.put tm d v) tm' := by
  refine ⟨by rw [put_len]; exact h.l, h.l', ?_⟩
  intro t y hm
  have e1 := nth_put tm d t v (Nat.lt_of_lt_of_le hd h.l)
  rcases List.mem_cons.1 hm with e | hm
  · cases e; rw [e1, if_pos rfl, hx]
  · unfold Mp.drop1 at hm
    obtain ⟨hm, h3⟩ := List.mem_filter.1 hm
    have hne : t ≠ d := by
      intro e; subst e; simp at h3
    rw [e1, if_neg hne, h.eq t y hm]

def tempsIn (M : Mp) (l : List Nat) : Bool := l.all fun t => (M.get t).isSome
theorem tempsIn_spec {M : Mp} {l : List Nat} (h : tempsIn M l = true) {nt nt' : Nat} {tm tm' : List AV} (hr : R nt nt' M tm tm') : ∀ t ∈ l, ev tm' (M.sub t) = nth tm t :=
  fun t ht => hr.ok (List.all_eq_true.1 h t ht)
def genG (M : Mp) : Option (Nat × Bool) → Option (Option (Nat × Bool))
  | none => some none
  | some (t, b) => match M.get t with
    | some (.tmp t') => some (some (t', b))
    | _ => none
theorem genG_ok {M : Mp} {g g' : Option (Nat × Bool)} (h : genG M g = some g') {nt nt' : Nat} {tm tm' : List AV} (hr : R nt nt' M tm tm') : wanted tm g = wanted tm' g' := by
  cases g with
  | none => cases h; rfl
  | some p =>
    obtain ⟨t, b⟩ := p
    simp only [genG] at h
    split at h
    · rename_i t' hg
      cases h
      have := hr.eq t _ (Mp.get_mem hg)
      show (match nth tm t with | .bool c => c == b | _ => false) = (match nth tm' t' with | .bool c => c == b | _ => false)
      rw [this]; rfl
    · cases h
def genD (nt nt' : Nat) (M : Mp) (d : Option Nat) (r : Nat) : Option (Option Nat × Mp) := match d with
  | none => some (none, M)
  | some d => bif Nat.blt d nt && Nat.blt r nt' then some (some r, M.keep d r) else none
theorem genD_ok {nt nt' : Nat} {M M' : Mp} {d d' : Option Nat} {r : Nat} (h : genD nt nt' M d r = some (d', M')) {tm tm' : List AV} (hr : R nt nt' M tm tm') (v : AV) : R nt nt' M' (putD tm d v) (putD tm' d' v) := by
  unfold genD at h
  cases d with
  | none => cases h; exact hr
  | some d =>
    dsimp only at h
    cases hb : Nat.blt d nt && Nat.blt r nt' with
    | false => rw [hb] at h; cases h
    | true =>
      rw [hb] at h
      cases h
      simp only [Bool.and_eq_true, Nat.blt_eq] at hb
      exact hr.puts hb.1 hb.2 v
noncomputable def outV (d : Option Nat) (tm : List AV) : AV := match d with | some d => nth tm d | none => aundef
theorem genD_nth {nt nt' : Nat} {M M' : Mp} {d d' : Option Nat} {r : Nat} (h : genD nt nt' M d r = some (d', M')) {tm tm' : List AV} (hr : R nt nt' M tm tm') (v : AV) : outV d (putD tm d v) = outV d' (putD tm' d' v) := by
  unfold genD at h
  cases d with
  | none => cases h; rfl
  | some d =>
    dsimp only at h
    cases hb : Nat.blt d nt && Nat.blt r nt' with
    | false => rw [hb] at h; cases h
    | true =>
      rw [hb] at h
      cases h
      simp only [Bool.and_eq_true, Nat.blt_eq] at hb
      show nth (put tm d v) d = nth (put tm' r v) r
      rw [nth_put tm d d v (Nat.lt_of_lt_of_le hb.1 hr.l), nth_put tm' r r v (Nat.lt_of_lt_of_le hb.2 hr.l'), if_pos rfl, if_pos rfl]

def genOps (nt nt' : Nat) : List AOper → List (Option Nat) → Mp → Option (List AOper × Mp)
  | [], _, M => some ([], M)
  | _ :: _, [], _ => none
  | o :: l, c :: cs, M => bif tempsIn M o.op.temps then (match c, o with
    | none, ⟨some d, .mov x, none⟩ => bif Nat.blt d nt then genOps nt nt' l cs ((d, x.map M.sub) :: M.drop1 d) else none
    | none, _ => none
    | some r, o => match genG M o.guard, genD nt nt' M o.dst r with
      | some g, some (d', M') => match genOps nt nt' l cs M' with
        | some (l', M2) => some (⟨d', o.op.map M.sub, g⟩ :: l', M2)
        | none => none
      | _, _ => none) else none
theorem genOps_ok {nt nt' : Nat} {c c' : CallT} (hl : Le c' c) : ∀ (l : List AOper) (cs : List (Option Nat)) {M M2 : Mp} {l' : List AOper} {tm tm' : List AV} {h : AHeap} {s' : St}, genOps nt nt' l cs M = some (l', M2) → R nt nt' M tm tm' → runOps l' c' ⟨tm', h⟩ = some s' →
    ∃ tm2, runOps l c ⟨tm, h⟩ = some ⟨tm2, s'.h⟩ ∧ R nt nt' M2 tm2 s'.tm
  | [], _, M, M2, l', tm, tm', h, s', hg, hr, he => by
    cases hg; cases he; exact ⟨tm, rfl, hr⟩
  | o :: l, [], _, _, _, _, _, _, _, hg, _, _ => by cases hg
  | o :: l, q :: cs, M, M2, l', tm, tm', h, s', hg, hr, he => by
    unfold genOps at hg
    cases ht : tempsIn M o.op.temps with
    | false => rw [ht] at hg; cases hg
    | true =>
      rw [ht, cond_true] at hg
      have hx := tempsIn_spec ht hr
      split at hg
      · rename_i d x
        cases hd : Nat.blt d nt with
        | false => rw [hd] at hg; cases hg
        | true =>
          rw [hd, cond_true] at hg
          rw [Nat.blt_eq] at hd
          obtain ⟨tm2, e1, e2⟩ := genOps_ok hl l cs hg (hr.mov hd (ev_map hx)) he
          exact ⟨tm2, e1, e2⟩
      · cases hg
      · rename_i r
        split at hg
        · rename_i g d' M' hgg hgd
          split at hg
          · rename_i l2 M3 hgo
            cases hg
            rw [runOps_cons, ← genG_ok hgg hr] at he
            rw [runOps_cons]
            by_cases hw : wanted tm o.guard = true
            · rw [if_pos hw] at he ⊢
              rw [step1_val] at he ⊢
              cases hv : val (o.op.map M.sub) c' tm' h with
              | none => rw [hv] at he; cases he
              | some p =>
                rw [hv] at he
                rw [val_map hl hx hv]
                exact genOps_ok hl l cs hgo (genD_ok hgd hr p.1) he
            · rw [if_neg hw] at he ⊢
              exact genOps_ok hl l cs hgo (genD_ok hgd hr aundef) he
          · cases hg
        · cases hg

theorem recheck_map {o : AOper} {σ : Nat → AOpd} {tm tm' : List AV} (hx : ∀ t ∈ o.op.temps, ev tm' (σ t) = nth tm t) (h : AHeap) (v : AV) (d' : Option Nat) (g : Option (Nat × Bool)) : recheck ⟨d', o.op.map σ, g⟩ tm' h v = recheck o tm h v := by
  funext h'
  unfold recheck
  dsimp only
  rw [AOp.cls_map]
  cases o.op.cls with
  | q => dsimp only; rw [evalQ_map hx]
  | a => dsimp only; rw [evalA_map hx]
  | e => rfl

def genDraw (nt nt' : Nat) : List (AOper × Nat) → List (Option Nat) → Mp → Option (List (AOper × Nat) × Mp)
  | [], _, M => some ([], M)
  | _ :: _, [], _ => none
  | (o, n) :: l, c :: cs, M => bif tempsIn M o.op.temps then (match c, o, n with
    | none, ⟨some d, .mov x, none⟩, 0 => bif Nat.blt d nt then genDraw nt nt' l cs ((d, x.map M.sub) :: M.drop1 d) else none
    | none, _, _ => none
    | some r, o, n => match genG M o.guard, genD nt nt' M o.dst r with
      | some g, some (d', M') => match genDraw nt nt' l cs M' with
        | some (l', M2) => some ((⟨d', o.op.map M.sub, g⟩, n) :: l', M2)
        | none => none
      | _, _ => none) else none
theorem genDraw_ok {nt nt' : Nat} {c c' : CallT} (hl : Le c' c) : ∀ (l : List (AOper × Nat)) (cs : List (Option Nat)) {M M2 : Mp} {l' : List (AOper × Nat)} {tm tm' : List AV} {h : AHeap} {s' : St} {ps : List ((AHeap → Bool) × Nat)}, genDraw nt nt' l cs M = some (l', M2) → R nt nt' M tm tm' → runDraw l' c' ⟨tm', h⟩ ps = some s' →
    ∃ tm2, runDraw l c ⟨tm, h⟩ ps = some ⟨tm2, s'.h⟩ ∧ R nt nt' M2 tm2 s'.tm
  | [], _, M, M2, l', tm, tm', h, s', ps, hg, hr, he => by
    cases hg; cases he; exact ⟨tm, rfl, hr⟩
  | _ :: l, [], _, _, _, _, _, _, _, _, hg, _, _ => by cases hg
  | (o, n) :: l, q :: cs, M, M2, l', tm, tm', h, s', ps, hg, hr, he => by
    unfold genDraw at hg
    cases ht : tempsIn M o.op.temps with
    | false => rw [ht] at hg; cases hg
    | true =>
      rw [ht, cond_true] at hg
      have hx := tempsIn_spec ht hr
      split at hg
      · rename_i d x
        cases hd : Nat.blt d nt with
        | false => rw [hd] at hg; cases hg
        | true =>
          rw [hd, cond_true] at hg
          rw [Nat.blt_eq] at hd
          obtain ⟨tm2, e1, e2⟩ := genDraw_ok hl l cs hg (hr.mov hd (ev_map hx)) he
          exact ⟨tm2, e1, e2⟩
      · cases hg
      · rename_i r
        split at hg
        · rename_i g d' M' hgg hgd
          split at hg
          · rename_i l2 M3 hgo
            cases hg
            rw [runDraw_cons, ← genG_ok hgg hr] at he
            rw [runDraw_cons]
            by_cases hw : wanted tm o.guard = true
            · rw [if_pos hw] at he ⊢
              rw [step1_val] at he ⊢
              cases hv : val (o.op.map M.sub) c' tm' h with
              | none => rw [hv] at he; cases he
              | some p =>
                rw [hv] at he
                rw [val_map hl hx hv]
                dsimp only at he ⊢
                rw [AOp.cls_map] at he
                have e1 := genD_ok hgd hr p.1
                have e2 := genD_nth hgd hr p.1
                cases hc : o.op.cls with
                | e =>
                  simp only [hc] at he ⊢
                  cases hb : checks ps p.2 with
                  | false => rw [hb] at he; cases he
                  | true => rw [hb] at he; exact genDraw_ok hl l cs hgo e1 he
                | q =>
                  simp only [hc] at he ⊢
                  cases n with
                  | zero => exact genDraw_ok hl l cs hgo e1 he
                  | succ n =>
                    rw [recheck_map hx] at he
                    have he2 : runDraw l2 c' ⟨putD tm' d' p.1, p.2⟩ ((recheck o tm h (outV d' (putD tm' d' p.1)), n + 1) :: ps) = some s' := he
                    rw [← e2] at he2
                    exact genDraw_ok hl l cs hgo e1 he2
                | a =>
                  simp only [hc] at he ⊢
                  cases n with
                  | zero => exact genDraw_ok hl l cs hgo e1 he
                  | succ n =>
                    rw [recheck_map hx] at he
                    have he2 : runDraw l2 c' ⟨putD tm' d' p.1, p.2⟩ ((recheck o tm h (outV d' (putD tm' d' p.1)), n + 1) :: ps) = some s' := he
                    rw [← e2] at he2
                    exact genDraw_ok hl l cs hgo e1 he2
            · rw [if_neg hw] at he ⊢
              dsimp only at he
              rw [AOp.cls_map] at he
              exact genDraw_ok hl l cs hgo (genD_ok hgd hr aundef) he
          · cases hg
        · cases hg

/-- the choices: a register for each operation, what is known at joins -/
inductive Ct where
  | skip
  | ops (l : List (Option Nat))
  | seq (a b : Ct)
  | cond (a b : Ct)
  | block (M : Mp) (a : Ct)
  | loop (M : Mp) (a : Ct)
def AOpd.beq : AOpd → AOpd → Bool
  | .tmp a, .tmp b => Nat.beq a b
  | .lit a, .lit b => AV.beq a b
  | _, _ => false
theorem AOpd.eq_of_beq {a b : AOpd} (h : AOpd.beq a b = true) : a = b := by
  cases a <;> cases b <;> simp only [AOpd.beq] at h <;> first | (cases h; done) | skip
  · rw [Nat.eq_of_beq_eq_true h]
  · rw [AV.eq_of_beq h]
/-- is all that M1 says said by M? -/
def Mp.le (M1 M : Mp) : Bool := M1.all fun p => match M.get p.1 with | some x => AOpd.beq x p.2 | none => false
theorem R.weak {nt nt' : Nat} {M1 M : Mp} {tm tm' : List AV} (h : R nt nt' M tm tm') (hl : M1.le M = true) : R nt nt' M1 tm tm' := by
  refine ⟨h.l, h.l', fun t x hm => ?_⟩
  have := List.all_eq_true.1 hl (t, x) hm
  dsimp only at this
  split at this
  · rename_i y hg
    rw [← AOpd.eq_of_beq this]; exact h.eq t y (Mp.get_mem hg)
  · cases this
def Mp.meet (M1 M2 : Mp) : Mp := M1.filter fun p => match M2.get p.1 with | some x => AOpd.beq x p.2 | none => false
theorem Mp.meet_l (M1 M2 : Mp) {nt nt' : Nat} {tm tm' : List AV} (h : R nt nt' M1 tm tm') : R nt nt' (M1.meet M2) tm tm' :=
  ⟨h.l, h.l', fun t x hm => h.eq t x (List.mem_filter.1 hm).1⟩
theorem Mp.meet_r (M1 M2 : Mp) {nt nt' : Nat} {tm tm' : List AV} (h : R nt nt' M2 tm tm') : R nt nt' (M1.meet M2) tm tm' :=
  ⟨h.l, h.l', fun t x hm => by
    have := (List.mem_filter.1 hm).2
    dsimp only at this
    split at this
    · rename_i y hg
      rw [← AOpd.eq_of_beq this]; exact h.eq t y (Mp.get_mem hg)
    · cases this⟩
/-- what is known where two ways meet (none: nobody comes here) -/
def join : Option Mp → Option Mp → Option Mp
  | none, b => b
  | a, none => a
  | some a, some b => some (a.meet b)
def leO (M1 : Mp) : Option Mp → Bool
  | none => true
  | some M => M1.le M
abbrev En := List (Nat × Mp)
def En.get : En → Nat → Option Mp
  | [], _ => none
  | (k, x) :: r, t => bif Nat.beq k t then some x else En.get r t

def gen (nt nt' : Nat) (Mr : Mp) : ACode → Ct → En → Mp → Option (ACode × Option Mp)
  | .skip, _, _, M => some (.skip, some M)
  | .ops l, .ops cs, _, M => match genOps nt nt' l cs M with | some (l', M') => some (.ops l', some M') | none => none
  | .draw l, .ops cs, _, M => match genDraw nt nt' l cs M with | some (l', M') => some (.draw l', some M') | none => none
  | .seq a b, .seq ca cb, E, M => match gen nt nt' Mr a ca E M with
    | some (a', some M1) => (match gen nt nt' Mr b cb E M1 with | some (b', M2) => some (.seq a' b', M2) | none => none)
    | some (a', none) => some (a', none)
    | none => none
  | .cond c a b, .cond ca cb, E, M => bif tempsIn M c.temps then (match gen nt nt' Mr a ca E M, gen nt nt' Mr b cb E M with
    | some (a', M1), some (b', M2) => some (.cond (c.map M.sub) a' b', join M1 M2)
    | _, _ => none) else none
  | .block id b, .block Mb cb, E, M => match gen nt nt' Mr b cb ((id, Mb) :: E) M with
    | some (b', M1) => bif leO Mb M1 then some (.block id b', some Mb) else none
    | none => none
  | .loop b, .loop Mh cb, E, M => bif Mh.le M then (match gen nt nt' Mr b cb E Mh with
    | some (b', M1) => bif leO Mh M1 then some (.loop b', none) else none
    | none => none) else none
  | .exit i, _, E, M => match E.get i with | some Mi => bif Mi.le M then some (.exit i, none) else none | none => none
  | .scope b, c, E, M => match gen nt nt' Mr b c E M with | some (b', M1) => some (.scope b', M1) | none => none
  | .ret, _, _, M => bif Mr.le M then some (.ret, none) else none
  | _, _, _, _ => none

/-- what is known at a way out -/
def outR (nt nt' : Nat) (Mr : Mp) (E : En) (Mo : Option Mp) (x : AX) (tm tm' : List AV) : Prop := match x with
  | .normal => ∃ M, Mo = some M ∧ R nt nt' M tm tm'
  | .exit i => ∃ M, E.get i = some M ∧ R nt nt' M tm tm'
  | .ret => R nt nt' Mr tm tm'
theorem gen_ok {nt nt' : Nat} {Mr : Mp} {c c' : CallT} (hl : Le c' c) {k : Nat} : ∀ (a : ACode) (ct : Ct) (E : En) {M : Mp} {a' : ACode} {Mo : Option Mp} {tm tm' : List AV} {h : AHeap} {x : AX} {s' : St}, gen nt nt' Mr a ct E M = some (a', Mo) → R nt nt' M tm tm' → exec a' c' k ⟨tm', h⟩ = some (x, s') →
    ∃ tm2, exec a c k ⟨tm, h⟩ = some (x, ⟨tm2, s'.h⟩) ∧ outR nt nt' Mr E Mo x tm2 s'.tm
  | .skip, ct, E, M, a', Mo, tm, tm', h, x, s', hg, hr, he => by
    simp only [gen] at hg; cases hg; cases he; exact ⟨tm, rfl, M, rfl, hr⟩
  | .ops l, .ops cs, E, M, a', Mo, tm, tm', h, x, s', hg, hr, he => by
    simp only [gen] at hg
    split at hg
    · rename_i l' M' hgo
      cases hg
      rw [exec_ops] at he
      cases hv : runOps l' c' ⟨tm', h⟩ with
      | none => rw [hv] at he; cases he
      | some s1 =>
        rw [hv] at he; cases he
        obtain ⟨tm2, e1, e2⟩ := genOps_ok hl l cs hgo hr hv
        exact ⟨tm2, by rw [exec_ops, e1], M', rfl, e2⟩
    · cases hg
  | .draw l, .ops cs, E, M, a', Mo, tm, tm', h, x, s', hg, hr, he => by
    simp only [gen] at hg
    split at hg
    · rename_i l' M' hgo
      cases hg
      rw [exec_draw] at he
      cases hv : runDraw l' c' ⟨tm', h⟩ [] with
      | none => rw [hv] at he; cases he
      | some s1 =>
        rw [hv] at he; cases he
        obtain ⟨tm2, e1, e2⟩ := genDraw_ok hl l cs hgo hr hv
        exact ⟨tm2, by rw [exec_draw, e1], M', rfl, e2⟩
    · cases hg
  | .seq a b, .seq ca cb, E, M, a', Mo, tm, tm', h, x, s', hg, hr, he => by
    simp only [gen] at hg
    split at hg
    · rename_i a1 M1 hga
      split at hg
      · rename_i b1 M2 hgb
        cases hg
        rw [exec_seq] at he
        cases hv : exec a1 c' k ⟨tm', h⟩ with
        | none => rw [hv] at he; cases he
        | some p =>
          obtain ⟨y, s1⟩ := p
          rw [hv] at he
          obtain ⟨tm2, e1, e2⟩ := gen_ok hl a ca E hga hr hv
          rw [exec_seq, e1]
          cases y with
          | normal =>
            obtain ⟨M0, e3, e4⟩ := e2
            cases e3
            exact gen_ok hl b cb E hgb e4 he
          | exit i => cases he; exact ⟨tm2, rfl, e2⟩
          | ret => cases he; exact ⟨tm2, rfl, e2⟩
      · cases hg
    · rename_i a1 hga
      cases hg
      obtain ⟨tm2, e1, e2⟩ := gen_ok hl a ca E hga hr he
      rw [exec_seq, e1]
      cases x with
      | normal => obtain ⟨M0, e3, e4⟩ := e2; cases e3
      | exit i => exact ⟨tm2, rfl, e2⟩
      | ret => exact ⟨tm2, rfl, e2⟩
    · cases hg
  | .cond cd a b, .cond ca cb, E, M, a', Mo, tm, tm', h, x, s', hg, hr, he => by
    simp only [gen] at hg
    cases ht : tempsIn M cd.temps with
    | false => rw [ht] at hg; cases hg
    | true =>
      rw [ht, cond_true] at hg
      have hx := ev_map (tempsIn_spec ht hr)
      split at hg
      · rename_i a1 M1 b1 M2 hga hgb
        cases hg
        rw [exec_cond] at he ⊢
        dsimp only at he ⊢
        rw [hx] at he
        split at he
        · rename_i t hc
          split at he
          · rename_i htt
            obtain ⟨tm2, e1, e2⟩ := gen_ok hl a ca E hga hr he
            refine ⟨tm2, by rw [if_pos htt]; exact e1, ?_⟩
            cases x with
            | normal =>
              obtain ⟨M0, e3, e4⟩ := e2
              cases e3
              cases M2 with
              | none => exact ⟨_, rfl, e4⟩
              | some M2 => exact ⟨_, rfl, Mp.meet_l _ _ e4⟩
            | exit i => exact e2
            | ret => exact e2
          · rename_i htt
            obtain ⟨tm2, e1, e2⟩ := gen_ok hl b cb E hgb hr he
            refine ⟨tm2, by rw [if_neg htt]; exact e1, ?_⟩
            cases x with
            | normal =>
              obtain ⟨M0, e3, e4⟩ := e2
              cases e3
              cases M1 with
              | none => exact ⟨_, rfl, e4⟩
              | some M1 => exact ⟨_, rfl, Mp.meet_r _ _ e4⟩
            | exit i => exact e2
            | ret => exact e2
        · cases he
      · cases hg
  | .block id b, .block Mb cb, E, M, a', Mo, tm, tm', h, x, s', hg, hr, he => by
    simp only [gen] at hg
    split at hg
    · rename_i b1 M1 hgb
      cases hle : leO Mb M1 with
      | false => rw [hle] at hg; cases hg
      | true =>
        rw [hle, cond_true] at hg
        cases hg
        rw [exec_block] at he
        cases hv : exec b1 c' k ⟨tm', h⟩ with
        | none => rw [hv] at he; cases he
        | some p =>
          obtain ⟨y, s1⟩ := p
          rw [hv] at he
          obtain ⟨tm2, e1, e2⟩ := gen_ok hl b cb _ hgb hr hv
          rw [exec_block, e1]
          cases y with
          | normal =>
            cases he
            obtain ⟨M0, e3, e4⟩ := e2
            cases e3
            exact ⟨tm2, rfl, Mb, rfl, e4.weak hle⟩
          | exit i =>
            obtain ⟨M0, e3, e4⟩ := e2
            unfold blockX at he ⊢
            dsimp only at he ⊢
            by_cases hi : i = id
            · subst hi
              rw [if_pos rfl] at he ⊢
              cases he
              have : En.get ((i, Mb) :: E) i = some Mb := by simp [En.get]
              rw [this] at e3
              cases e3
              exact ⟨tm2, rfl, Mb, rfl, e4⟩
            · rw [if_neg hi] at he ⊢
              cases he
              refine ⟨tm2, rfl, M0, ?_, e4⟩
              have hb : Nat.beq id i = false := by
                cases hq : Nat.beq id i
                · rfl
                · exact absurd (Nat.eq_of_beq_eq_true hq).symm hi
              simpa [En.get, hb] using e3
          | ret => cases he; exact ⟨tm2, rfl, e2⟩
    · cases hg
  | .loop b, .loop Mh cb, E, M, a', Mo, tm, tm', h, x, s', hg, hr, he => by
    simp only [gen] at hg
    cases hle : Mh.le M with
    | false => rw [hle] at hg; cases hg
    | true =>
      rw [hle, cond_true] at hg
      split at hg
      · rename_i b1 M1 hgb
        cases hle2 : leO Mh M1 with
        | false => rw [hle2] at hg; cases hg
        | true =>
          rw [hle2, cond_true] at hg
          cases hg
          rw [exec_loop] at he
          have key : ∀ (n : Nat) {tm tm' : List AV} {h : AHeap}, R nt nt' Mh tm tm' → iter n (exec b1 c' k) ⟨tm', h⟩ = some (x, s') → ∃ tm2, iter n (exec b c k) ⟨tm, h⟩ = some (x, ⟨tm2, s'.h⟩) ∧ outR nt nt' Mr E none x tm2 s'.tm := by
            intro n
            induction n with
            | zero => intro tm tm' h _ he; cases he
            | succ n ih =>
              intro tm tm' h hr he
              rw [iter_succ] at he
              cases hv : exec b1 c' k ⟨tm', h⟩ with
              | none => rw [hv] at he; cases he
              | some p =>
                obtain ⟨y, s1⟩ := p
                rw [hv] at he
                obtain ⟨tm2, e1, e2⟩ := gen_ok hl b cb E hgb hr hv
                rw [iter_succ, e1]
                cases y with
                | normal =>
                  obtain ⟨M0, e3, e4⟩ := e2
                  cases e3
                  exact ih (e4.weak hle2) he
                | exit i => cases he; exact ⟨tm2, rfl, e2⟩
                | ret => cases he; exact ⟨tm2, rfl, e2⟩
          obtain ⟨tm2, e1, e2⟩ := key k (hr.weak hle) he
          exact ⟨tm2, by rw [exec_loop]; exact e1, e2⟩
      · cases hg
  | .exit i, ct, E, M, a', Mo, tm, tm', h, x, s', hg, hr, he => by
    simp only [gen] at hg
    split at hg
    · rename_i Mi hgi
      cases hle : Mi.le M with
      | false => rw [hle] at hg; cases hg
      | true =>
        rw [hle, cond_true] at hg
        cases hg; cases he
        exact ⟨tm, rfl, Mi, hgi, hr.weak hle⟩
    · cases hg
  | .scope b, ct, E, M, a', Mo, tm, tm', h, x, s', hg, hr, he => by
    simp only [gen] at hg
    split at hg
    · rename_i b1 M1 hgb
      cases hg
      rw [exec_scope] at he ⊢
      exact gen_ok hl b ct E hgb hr he
    · cases hg
  | .ret, ct, E, M, a', Mo, tm, tm', h, x, s', hg, hr, he => by
    simp only [gen] at hg
    cases hle : Mr.le M with
    | false => rw [hle] at hg; cases hg
    | true =>
      rw [hle, cond_true] at hg
      cases hg; cases he
      exact ⟨tm, rfl, hr.weak hle⟩
  | .rangeFunc _ _ _ _, _, _, _, _, _, _, _, _, _, _, hg, _, _ => by simp [gen] at hg

def genRes (Mr : Mp) : List ARes → Option (List ARes)
  | [] => some []
  | .tmp t :: r => match Mr.get t, genRes Mr r with
    | some (.tmp t'), some r' => some (.tmp t' :: r')
    | _, _ => none
  | .cell t n :: r => match Mr.get t, genRes Mr r with
    | some (.tmp t'), some r' => some (.cell t' n :: r')
    | _, _ => none
theorem genRes_ok {nt nt' : Nat} {Mr : Mp} {tm tm' : List AV} (hr : R nt nt' Mr tm tm') (h : AHeap) : ∀ {rs rs' : List ARes}, genRes Mr rs = some rs' → resOfs tm h rs = resOfs tm' h rs'
  | [], _, hg => by cases hg; rfl
  | .tmp t :: r, _, hg => by
    unfold genRes at hg
    split at hg
    · rename_i t' r' h1 h2
      cases hg
      have e := hr.eq t _ (Mp.get_mem h1)
      have e' : nth tm t = nth tm' t' := e
      simp only [resOfs, resOf, e', genRes_ok hr h h2]
    · cases hg
  | .cell t n :: r, _, hg => by
    unfold genRes at hg
    split at hg
    · rename_i t' r' h1 h2
      cases hg
      have e := hr.eq t _ (Mp.get_mem h1)
      have e' : nth tm t = nth tm' t' := e
      simp only [resOfs, resOf, e', genRes_ok hr h h2]
    · cases hg
theorem nth_app (l : List AV) (n t : Nat) : nth (l ++ List.replicate n aundef) t = nth l t := by
  induction l generalizing t with
  | nil =>
    rw [List.nil_append, nth_nil]
    induction n generalizing t with
    | zero => rfl
    | succ n ih => cases t with
      | zero => rfl
      | succ t => rw [List.replicate_succ, nth_succ]; exact ih t
  | cons x r ih => cases t with
    | zero => rfl
    | succ t => rw [List.cons_append, nth_succ, nth_succ]; exact ih t
def genFn (fn : AFn) (nt' : Nat) (M0 Mr : Mp) (ct : Ct) : Option AFn :=
  bif M0.all fun p => AOpd.beq p.2 (.tmp p.1) then (match gen fn.nt nt' Mr fn.body ct [] M0, genRes Mr fn.res with
    | some (b, Mo), some rs => bif leO Mr Mo then some ⟨nt', rs, b⟩ else none
    | _, _ => none) else none
theorem genFn_ok {fn fn' : AFn} {nt' : Nat} {M0 Mr : Mp} {ct : Ct} (hg : genFn fn nt' M0 Mr ct = some fn') {c c' : CallT} (hl : Le c' c) {k : Nat} {args : List AV} {h : AHeap} {r : AV × AHeap}
    (he : finish fn'.res (exec fn'.body c' k ⟨args ++ List.replicate (fn'.nt - args.length) aundef, h⟩) = some r) : finish fn.res (exec fn.body c k ⟨args ++ List.replicate (fn.nt - args.length) aundef, h⟩) = some r := by
  unfold genFn at hg
  cases hm : M0.all fun p => AOpd.beq p.2 (.tmp p.1) with
  | false => rw [hm] at hg; cases hg
  | true =>
    rw [hm, cond_true] at hg
    split at hg
    · rename_i b Mo rs hgb hgr
      cases hle : leO Mr Mo with
      | false => rw [hle] at hg; cases hg
      | true =>
        rw [hle, cond_true] at hg
        cases hg
        dsimp only at he
        have hr : R fn.nt nt' M0 (args ++ List.replicate (fn.nt - args.length) aundef) (args ++ List.replicate (nt' - args.length) aundef) := by
          refine ⟨by simp; omega, by simp; omega, fun t x hx => ?_⟩
          have := AOpd.eq_of_beq (List.all_eq_true.1 hm (t, x) hx)
          dsimp only at this
          subst this
          show nth _ t = nth _ t
          rw [nth_app, nth_app]
        cases hv : exec b c' k ⟨args ++ List.replicate (nt' - args.length) aundef, h⟩ with
        | none => rw [hv] at he; cases he
        | some p =>
          obtain ⟨x, s'⟩ := p
          rw [hv] at he
          obtain ⟨tm2, e1, e2⟩ := gen_ok hl _ _ _ hgb hr hv
          rw [e1]
          cases x with
          | normal =>
            obtain ⟨M, e3, e4⟩ := e2
            subst e3
            have e5 : R fn.nt nt' Mr tm2 s'.tm := e4.weak hle
            simp only [finish, result] at he ⊢
            rw [genRes_ok e5 s'.h hgr]; exact he
          | exit i => cases he
          | ret =>
            have e5 : R fn.nt nt' Mr tm2 s'.tm := e2
            simp only [finish, result] at he ⊢
            rw [genRes_ok e5 s'.h hgr]; exact he
    · cases hg
def FOpt (f f' : AFn) : Prop := f' = f ∨ ∃ nt' M0 Mr ct, genFn f nt' M0 Mr ct = some f'
def TOpt (T T' : FnTab) : Prop := ∀ f fn', T' f = some fn' → ∃ fn, T f = some fn ∧ FOpt fn fn'
theorem callF_opt {T T' : FnTab} {I : Oracle} (hO : TOpt T T') : ∀ n : Nat, Le (callF T' I n) (callF T I n)
  | 0 => fun _ _ _ _ e => by cases e
  | n + 1 => fun c a hp r e => by
    have ih : Le (callF T' I n) (callF T I n) := callF_opt hO n
    cases c with
    | fn f =>
      rw [callF_fn] at e ⊢
      cases hi : I f a hp with
      | some r' => rw [hi] at e; exact e
      | none =>
        rw [hi] at e
        dsimp only at e ⊢
        cases hT : T' f with
        | none => rw [hT] at e; cases e
        | some fn' =>
          rw [hT] at e
          obtain ⟨fn, h1, h2⟩ := hO _ _ hT
          rw [h1]
          dsimp only at e ⊢
          rcases h2 with h2 | ⟨nt', M0, Mr, ct, h2⟩
          · subst h2
            exact finish_le (fun p hp => exec_le ih (Nat.le_refl n) _ hp) e
          · exact genFn_ok h2 ih e
    | yield l =>
      rw [callF_yield] at e ⊢
      split at e
      · rename_i tm ps ca cb pend hg
        split at e
        · rename_i hlen
          rw [if_pos hlen]
          split at e
          · rename_i s1 hv
            rw [exec_le ih (Nat.le_refl n) _ hv]
            dsimp only at e ⊢
            split at e
            · exact endRound_le (fun p hp => exec_le ih (Nat.le_refl n) _ hp) e
            · cases e
          · cases e
        · cases e
      · cases e
def Tb.Opt : Tb → Tb → Prop
  | .no, .no => True
  | .one k f, .one k' f' => k = k' ∧ FOpt f f'
  | .br k l r, .br k' l' r' => k = k' ∧ Tb.Opt l l' ∧ Tb.Opt r r'
  | _, _ => False
theorem Tb.opt : ∀ {t t' : Tb}, t.Opt t' → TOpt t.get t'.get
  | .no, .no, _, f, fn, h => by cases h
  | .one k g, .one k' g', hk, f, fn, h => by
    obtain ⟨e, hf⟩ := hk
    subst e
    have h' : Bool.rec (motive := fun _ => Option AFn) none (some g') (Nat.beq f k) = some fn := h
    show ∃ fn0, Bool.rec (motive := fun _ => Option AFn) none (some g) (Nat.beq f k) = some fn0 ∧ _
    cases hb : Nat.beq f k with
    | false => rw [hb] at h'; cases h'
    | true => rw [hb] at h'; cases h'; exact ⟨g, rfl, hf⟩
  | .br k l r, .br k' l' r', hk, f, fn, h => by
    obtain ⟨e, h1, h2⟩ := hk
    subst e
    have h' : Bool.rec (motive := fun _ => Option AFn) (r'.get f) (l'.get f) (Nat.blt f k) = some fn := h
    show ∃ fn0, Bool.rec (motive := fun _ => Option AFn) (r.get f) (l.get f) (Nat.blt f k) = some fn0 ∧ _
    cases hb : Nat.blt f k with
    | false => rw [hb] at h'; exact Tb.opt h2 f fn h'
    | true => rw [hb] at h'; exact Tb.opt h1 f fn h'
  | .no, .one _ _, hk, _, _, _ => hk.elim
  | .no, .br _ _ _, hk, _, _, _ => hk.elim
  | .one _ _, .no, hk, _, _, _ => hk.elim
  | .one _ _, .br _ _ _, hk, _, _, _ => hk.elim
  | .br _ _ _, .no, hk, _, _, _ => hk.elim
  | .br _ _ _, .one _ _, hk, _, _, _ => hk.elim
end Go.AM
