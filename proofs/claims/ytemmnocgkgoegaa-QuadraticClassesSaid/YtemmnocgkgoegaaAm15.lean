/- An operation looks at its own temporaries alone; it looks at the heap's objects alone. No condition. -/
import Derived.Test.YtemmnocgkgoegaaAm14
namespace Go.AM
open Go

section
variable {tm tm' : List AV} {h h' : AHeap}

theorem ev_congr {x : AOpd} (hx : ∀ t ∈ x.temps, nth tm t = nth tm' t) : ev tm x = ev tm' x := by
  cases x with
  | tmp t => exact hx t (by simp [AOpd.temps])
  | lit v => rfl
theorem evs_congr : ∀ {l : List AOpd}, (∀ t ∈ tempsL l, nth tm t = nth tm' t) → evs tm l = evs tm' l
  | [], _ => rfl
  | x :: r, hx => by
    have h1 := ev_congr (x := x) fun t ht => hx t (List.mem_append_left _ ht)
    have h2 := evs_congr (l := r) fun t ht => hx t (List.mem_append_right _ ht)
    simp only [evs, h1, h2]
theorem optInt_congr {x : Option AOpd} (hx : ∀ t ∈ tempsO x, nth tm t = nth tm' t) : optInt tm x = optInt tm' x := by
  cases x with
  | none => rfl
  | some x => simp only [optInt]; rw [ev_congr hx]
theorem fills_congr : ∀ {ps : List (Nat × Nat × AOpd)} {z : List AV}, (∀ t ∈ tempsF ps, nth tm t = nth tm' t) → fills z ps tm = fills z ps tm'
  | [], _, _ => rfl
  | (o, n, x) :: r, z, hx => by
    have h1 := ev_congr (x := x) fun t ht => hx t (List.mem_append_left _ ht)
    have h2 : ∀ z, fills z r tm = fills z r tm' := fun z => fills_congr fun t ht => hx t (List.mem_append_right _ ht)
    simp only [fills, h1, h2]
theorem fillsS_congr {sz : Nat} : ∀ {ps : List (Nat × AOpd)} {z : List AV}, (∀ t ∈ tempsP ps, nth tm t = nth tm' t) → fillsS sz z ps tm = fillsS sz z ps tm'
  | [], _, _ => rfl
  | (i, x) :: r, z, hx => by
    have h1 := ev_congr (x := x) fun t ht => hx t (List.mem_append_left _ ht)
    have h2 : ∀ z, fillsS sz z r tm = fillsS sz z r tm' := fun z => fillsS_congr fun t ht => hx t (List.mem_append_right _ ht)
    simp only [fillsS, h1, h2]

theorem evalQ_congr {op : AOp} (hx : ∀ t ∈ op.temps, nth tm t = nth tm' t) : evalQ op tm h = evalQ op tm' h := by
  cases op with
  | mov x => simp only [evalQ, ev_congr hx]
  | pick c x y =>
    simp only [AOp.temps, List.mem_append] at hx
    simp only [evalQ, ev_congr (x := c) fun t ht => hx t (.inl ht), ev_congr (x := x) fun t ht => hx t (.inr (.inl ht)), ev_congr (x := y) fun t ht => hx t (.inr (.inr ht))]
  | build z ps => simp only [evalQ, fills_congr hx]
  | load n x => simp only [evalQ, ev_congr hx]
  | nilck x => simp only [evalQ, ev_congr hx]
  | bin op e x y =>
    simp only [AOp.temps, List.mem_append] at hx
    simp only [evalQ, ev_congr (x := x) fun t ht => hx t (.inl ht), ev_congr (x := y) fun t ht => hx t (.inr ht)]
  | un op x => simp only [evalQ, ev_congr hx]
  | toInt k x => simp only [evalQ, ev_congr hx]
  | toStr x => simp only [evalQ, ev_congr hx]
  | iface t x => simp only [evalQ, ev_congr hx]
  | mkfn f fs cs =>
    simp only [AOp.temps, List.mem_append] at hx
    simp only [evalQ, evs_congr (l := fs) fun t ht => hx t (.inl ht), evs_congr (l := cs) fun t ht => hx t (.inr ht)]
  | slice sz x lo hi up =>
    simp only [AOp.temps, List.mem_append] at hx
    simp only [evalQ, ev_congr (x := x) fun t ht => hx t (.inl ht), optInt_congr (x := lo) fun t ht => hx t (.inr (.inl ht)), optInt_congr (x := hi) fun t ht => hx t (.inr (.inr (.inl ht))), optInt_congr (x := up) fun t ht => hx t (.inr (.inr (.inr ht)))]
  | sliceA n sz x lo hi up =>
    simp only [AOp.temps, List.mem_append] at hx
    simp only [evalQ, ev_congr (x := x) fun t ht => hx t (.inl ht), optInt_congr (x := lo) fun t ht => hx t (.inr (.inl ht)), optInt_congr (x := hi) fun t ht => hx t (.inr (.inr (.inl ht))), optInt_congr (x := up) fun t ht => hx t (.inr (.inr (.inr ht)))]
  | substr x lo hi =>
    simp only [AOp.temps, List.mem_append] at hx
    simp only [evalQ, ev_congr (x := x) fun t ht => hx t (.inl ht), optInt_congr (x := lo) fun t ht => hx t (.inr (.inl ht)), optInt_congr (x := hi) fun t ht => hx t (.inr (.inr ht))]
  | faddr off x => simp only [evalQ, ev_congr hx]
  | field off n x => simp only [evalQ, ev_congr hx]
  | iaddr arr sz x i =>
    simp only [AOp.temps, List.mem_append] at hx
    cases arr <;> simp only [evalQ, ev_congr (x := x) fun t ht => hx t (.inl ht), ev_congr (x := i) fun t ht => hx t (.inr ht)]
  | index len sz n x i =>
    simp only [AOp.temps, List.mem_append] at hx
    simp only [evalQ, ev_congr (x := x) fun t ht => hx t (.inl ht), ev_congr (x := i) fun t ht => hx t (.inr ht)]
  | indexS x i =>
    simp only [AOp.temps, List.mem_append] at hx
    simp only [evalQ, ev_congr (x := x) fun t ht => hx t (.inl ht), ev_congr (x := i) fun t ht => hx t (.inr ht)]
  | lookup ks z ok m k =>
    simp only [AOp.temps, List.mem_append] at hx
    simp only [evalQ, ev_congr (x := m) fun t ht => hx t (.inl ht), ev_congr (x := k) fun t ht => hx t (.inr ht)]
  | extr i x => simp only [evalQ, ev_congr hx]
  | len k x => simp only [evalQ, ev_congr hx]
  | lenA n => rfl
  | mx xs => simp only [evalQ, evs_congr hx]
  | mn xs => simp only [evalQ, evs_congr hx]
  | _ => rfl

theorem evalA_congr {op : AOp} (hx : ∀ t ∈ op.temps, nth tm t = nth tm' t) : evalA op tm h = evalA op tm' h := by
  cases op with
  | box x => simp only [evalA, ev_congr hx]
  | bslice len sz z ps => simp only [evalA, fillsS_congr hx]
  | mkslice sz b z l c =>
    simp only [AOp.temps, List.mem_append] at hx
    simp only [evalA, ev_congr (x := l) fun t ht => hx t (.inl ht), ev_congr (x := c) fun t ht => hx t (.inr ht)]
  | toBytes x => simp only [evalA, ev_congr hx]
  | _ => rfl

theorem evalE_congr {op : AOp} {call : CallT} (hx : ∀ t ∈ op.temps, nth tm t = nth tm' t) : evalE op call tm h = evalE op call tm' h := by
  cases op with
  | store n x y =>
    simp only [AOp.temps, List.mem_append] at hx
    simp only [evalE, ev_congr (x := x) fun t ht => hx t (.inl ht), ev_congr (x := y) fun t ht => hx t (.inr ht)]
  | mupd ks m k v =>
    simp only [AOp.temps, List.mem_append] at hx
    simp only [evalE, ev_congr (x := m) fun t ht => hx t (.inl ht), ev_congr (x := k) fun t ht => hx t (.inr (.inl ht)), ev_congr (x := v) fun t ht => hx t (.inr (.inr ht))]
  | call f args =>
    simp only [AOp.temps, List.mem_append] at hx
    simp only [evalE, ev_congr (x := f) fun t ht => hx t (.inl ht), evs_congr (l := args) fun t ht => hx t (.inr ht)]
  | append sz b z x y =>
    simp only [AOp.temps, List.mem_append] at hx
    simp only [evalE, ev_congr (x := x) fun t ht => hx t (.inl ht), ev_congr (x := y) fun t ht => hx t (.inr ht)]
  | copy sz x y =>
    simp only [AOp.temps, List.mem_append] at hx
    simp only [evalE, ev_congr (x := x) fun t ht => hx t (.inl ht), ev_congr (x := y) fun t ht => hx t (.inr ht)]
  | _ => rfl

/-- the heap has grown: all that was there is there -/
def Grown (h h' : AHeap) : Prop := ∀ i o, h.get i = some o → h'.get i = some o
theorem Grown.cellsOf (hg : Grown h h') {i : Nat} {c : List AV} (hc : cellsOf h i = some c) : cellsOf h' i = some c := by
  obtain ⟨r, h1⟩ := cellsOf_some hc
  simp only [AM.cellsOf, hg _ _ h1]

theorem evalQ_grown (hg : Grown h h') {op : AOp} {v : AV} (he : evalQ op tm h = some v) : evalQ op tm h' = some v := by
  cases op with
  | load n x =>
    simp only [evalQ] at he ⊢
    split at he <;> first | (cases he; done) | skip
    rename_i i o hx
    split at he <;> first | (cases he; done) | skip
    rename_i c hc
    simp only [hg.cellsOf hc]; exact he
  | toStr x =>
    simp only [evalQ] at he ⊢
    split at he <;> first | (cases he; done) | skip
    · exact he
    · rename_i i o n cp hx
      split at he <;> first | (cases he; done) | skip
      rename_i c hc
      simp only [hg.cellsOf hc]; exact he
  | lookup ks z ok m k =>
    simp only [evalQ] at he ⊢
    split at he <;> first | (cases he; done) | skip
    · exact he
    · rename_i i hx
      split at he <;> first | (cases he; done) | skip
      rename_i es hget
      simp only [hg _ _ hget]; exact he
  | len k x =>
    simp only [evalQ] at he ⊢
    split at he <;> first | (cases he; done) | skip
    · exact he
    · exact he
    · exact he
    · exact he
    · split at he <;> first | (cases he; done) | skip
      rename_i es hget
      simp only [hg _ _ hget]; exact he
  | iaddr arr sz x i => cases arr <;> exact he
  | _ => exact he

theorem evalQ_noreads {op : AOp} (hr : op.reads = false) : evalQ op tm h = evalQ op tm h' := by
  cases op <;> first | rfl | (cases hr; done) | skip
  rename_i arr _ _ _; cases arr <;> rfl

theorem evalA_next {op : AOp} (hn : h.next = h'.next) : evalA op tm h = evalA op tm h' := by
  cases op <;> simp only [evalA, hn]

theorem Tidy.grown (ht : Tidy h) (o : AObj) : Grown h (h.push o) := fun i o' hi => by
  rw [AHeap.get_push_ne _ _ (fun e => by have := ht i (by omega); rw [hi] at this; cases this)]; exact hi

end
end Go.AM
