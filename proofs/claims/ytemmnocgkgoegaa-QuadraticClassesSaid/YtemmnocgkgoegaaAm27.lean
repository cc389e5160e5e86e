/- Symbolic runs: a function's code is walked with its rest as data. Printed by a program of this claim's own. No condition. -/
import Derived.Test.YtemmnocgkgoegaaAm26
namespace Go.AM
open Go
inductive Fr where
  | seq (b : ACode)
  | block (id : Nat)
  | loop (b : ACode)
section
variable {C : CallT} {K : List Fr} {Q : AX → St → Prop}
theorem Le.rfl {c : CallT} : Le c c := fun _ _ _ _ h => h
noncomputable def runK (C : CallT) : List Fr → Nat → XR → XR
  | [], _, r => r
  | .seq b :: K, k, r => runK C K k (match r with | some (.normal, s) => exec b C k s | r => r)
  | .block id :: K, k, r => runK C K k (blockX id r)
  | .loop b :: K, k, r => runK C K k (match r with | some (.normal, s) => iter k (exec b C k) s | r => r)
theorem runK_none : ∀ (K : List Fr) (k : Nat), runK C K k none = none
  | [], _ => by rfl
  | .seq _ :: K, k => runK_none K k
  | .block _ :: K, k => runK_none K k
  | .loop _ :: K, k => runK_none K k
theorem runK_le {k m : Nat} (hk : k ≤ m) : ∀ (K : List Fr) {x y : XR} {p : AX × St}, (∀ q, x = some q → y = some q) → runK C K k x = some p → runK C K m y = some p
  | [], x, y, p, h, e => h _ e
  | .seq b :: K, x, y, p, h, e => by
    cases x with
    | none => exact absurd ((runK_none (C := C) (.seq b :: K) k).symm.trans e) (by simp)
    | some q =>
      rw [h q rfl]
      obtain ⟨a, s⟩ := q
      cases a with
      | normal => exact runK_le hk K (fun q hq => exec_le Le.rfl hk b hq) e
      | _ => exact runK_le hk K (fun q hq => hq) e
  | .block id :: K, x, y, p, h, e => by
    cases x with
    | none => exact absurd ((runK_none (C := C) (.block id :: K) k).symm.trans e) (by simp)
    | some q => rw [h q rfl]; exact runK_le hk K (fun q hq => hq) e
  | .loop b :: K, x, y, p, h, e => by
    cases x with
    | none => exact absurd ((runK_none (C := C) (.loop b :: K) k).symm.trans e) (by simp)
    | some q =>
      rw [h q rfl]
      obtain ⟨a, s⟩ := q
      cases a with
      | normal => exact runK_le hk K (fun q hq => iter_le (fun s r he => exec_le Le.rfl hk b he) hk hq) e
      | _ => exact runK_le hk K (fun q hq => hq) e

def WX (C : CallT) (x : AX) (K : List Fr) (s : St) (Q : AX → St → Prop) : Prop := ∃ k y s', runK C K k (some (x, s)) = some (y, s') ∧ Q y s'
def WK (C : CallT) (c : ACode) (K : List Fr) (s : St) (Q : AX → St → Prop) : Prop := ∃ k y s', runK C K k (exec c C k s) = some (y, s') ∧ Q y s'
def WOs (C : CallT) (l : List AOper) (K : List Fr) (s : St) (Q : AX → St → Prop) : Prop := ∃ s', runOps l C s = some s' ∧ WX C .normal K s' Q
def WDs (C : CallT) (l : List (AOper × Nat)) (ps : List ((AHeap → Bool) × Nat)) (K : List Fr) (s : St) (Q : AX → St → Prop) : Prop := ∃ s', runDraw l C s ps = some s' ∧ WX C .normal K s' Q
def WB (C : CallT) (v : AV) (a b : ACode) (K : List Fr) (s : St) (Q : AX → St → Prop) : Prop := match v with
  | .bool true => WK C a K s Q
  | .bool false => WK C b K s Q
  | _ => False
theorem WB_true {a b : ACode} {s : St} : WB C (.bool true) a b K s Q ↔ WK C a K s Q := Iff.rfl
theorem WB_false {a b : ACode} {s : St} : WB C (.bool false) a b K s Q ↔ WK C b K s Q := Iff.rfl
theorem WB_split {p : Prop} [Decidable p] {a b : ACode} {s : St} (h1 : p → WK C a K s Q) (h2 : ¬ p → WK C b K s Q) : WB C (.bool (decide p)) a b K s Q := by
  by_cases h : p
  · rw [decide_eq_true h]; exact h1 h
  · rw [decide_eq_false h]; exact h2 h
theorem WB_splitb {t : Bool} {a b : ACode} {s : St} (h1 : t = true → WK C a K s Q) (h2 : t = false → WK C b K s Q) : WB C (.bool t) a b K s Q := by
  cases t
  · exact h2 rfl
  · exact h1 rfl
theorem WK_skip {s : St} : WK C .skip K s Q ↔ WX C .normal K s Q := Iff.rfl
theorem WK_seq {a b : ACode} {s : St} : WK C (.seq a b) K s Q ↔ WK C a (.seq b :: K) s Q := by
  unfold WK; simp only [exec_seq]; exact Iff.rfl
theorem WX_seq {b : ACode} {s : St} : WX C .normal (.seq b :: K) s Q ↔ WK C b K s Q := Iff.rfl
theorem WX_seq_exit {b : ACode} {s : St} {i : Nat} : WX C (.exit i) (.seq b :: K) s Q ↔ WX C (.exit i) K s Q := Iff.rfl
theorem WX_seq_ret {b : ACode} {s : St} : WX C .ret (.seq b :: K) s Q ↔ WX C .ret K s Q := Iff.rfl
theorem WK_block {id : Nat} {b : ACode} {s : St} : WK C (.block id b) K s Q ↔ WK C b (.block id :: K) s Q := by
  unfold WK; simp only [exec_block]; exact Iff.rfl
theorem WX_block {id : Nat} {s : St} : WX C .normal (.block id :: K) s Q ↔ WX C .normal K s Q := Iff.rfl
theorem WX_block_ret {id : Nat} {s : St} : WX C .ret (.block id :: K) s Q ↔ WX C .ret K s Q := Iff.rfl
theorem WX_block_exit {i id : Nat} {s : St} : WX C (.exit i) (.block id :: K) s Q ↔ if i = id then WX C .normal K s Q else WX C (.exit i) K s Q := by
  unfold WX
  show (∃ k y s', runK C K k (if i = id then some (.normal, s) else some (.exit i, s)) = some (y, s') ∧ Q y s') ↔ _
  by_cases h : i = id <;> simp [h]
theorem WX_block_eq {i : Nat} {s : St} : WX C (.exit i) (.block i :: K) s Q ↔ WX C .normal K s Q := by rw [WX_block_exit, if_pos rfl]
theorem WX_block_ne {i id : Nat} {s : St} (h : i ≠ id) : WX C (.exit i) (.block id :: K) s Q ↔ WX C (.exit i) K s Q := by rw [WX_block_exit, if_neg h]
theorem WK_exit {i : Nat} {s : St} : WK C (.exit i) K s Q ↔ WX C (.exit i) K s Q := Iff.rfl
theorem WK_ret {s : St} : WK C .ret K s Q ↔ WX C .ret K s Q := Iff.rfl
theorem WK_scope {b : ACode} {s : St} : WK C (.scope b) K s Q ↔ WK C b K s Q := Iff.rfl
theorem WX_nil {x : AX} {s : St} : WX C x [] s Q ↔ Q x s := by
  unfold WX
  constructor
  · rintro ⟨k, y, s', h, hq⟩
    cases h; exact hq
  · intro h; exact ⟨0, x, s, rfl, h⟩
theorem WK_cond {c : AOpd} {a b : ACode} {tm : List AV} {h : AHeap} : WK C (.cond c a b) K ⟨tm, h⟩ Q ↔ WB C (ev tm c) a b K ⟨tm, h⟩ Q := by
  unfold WK; simp only [exec_cond]
  unfold WB
  cases hv : ev tm c with
  | bool t => cases t <;> exact Iff.rfl
  | _ => simp only [runK_none]; simp
theorem WK_ops {l : List AOper} {s : St} : WK C (.ops l) K s Q ↔ WOs C l K s Q := by
  unfold WK WOs WX; simp only [exec_ops]
  cases hv : runOps l C s with
  | none => simp [runK_none]
  | some s' => simp
theorem WK_draw {l : List (AOper × Nat)} {s : St} : WK C (.draw l) K s Q ↔ WDs C l [] K s Q := by
  unfold WK WDs WX; simp only [exec_draw]
  cases hv : runDraw l C s [] with
  | none => simp [runK_none]
  | some s' => simp
theorem WX_loop {b : ACode} {s : St} : WX C .normal (.loop b :: K) s Q ↔ WK C (.loop b) K s Q := Iff.rfl
theorem WX_loop_exit {b : ACode} {s : St} {i : Nat} : WX C (.exit i) (.loop b :: K) s Q ↔ WX C (.exit i) K s Q := Iff.rfl
theorem WX_loop_ret {b : ACode} {s : St} : WX C .ret (.loop b :: K) s Q ↔ WX C .ret K s Q := Iff.rfl
theorem WK_loop {b : ACode} {s : St} (h : WK C b (.loop b :: K) s Q) : WK C (.loop b) K s Q := by
  obtain ⟨k, y, s', h, hq⟩ := h
  refine ⟨k + 1, y, s', ?_, hq⟩
  rw [exec_loop, iter_succ]
  refine runK_le (Nat.le_succ k) K ?_ h
  intro q hq
  cases hv : exec b C k s with
  | none => rw [hv] at hq; cases hq
  | some p =>
    rw [exec_le Le.rfl (Nat.le_succ k) b hv]
    rw [hv] at hq
    obtain ⟨x, s1⟩ := p
    cases x with
    | normal => exact iter_le (fun s r he => exec_le Le.rfl (Nat.le_succ k) b he) (Nat.le_refl k) hq
    | _ => exact hq

theorem WK.mono {c : ACode} {s : St} {Q' : AX → St → Prop} (h : WK C c K s Q) (hq : ∀ x s, Q x s → Q' x s) : WK C c K s Q' := by
  obtain ⟨k, y, s', h, h1⟩ := h
  exact ⟨k, y, s', h, hq _ _ h1⟩
/-- a part of the code, and what lies behind it -/
theorem WK.part {c : ACode} {s : St} (h : WK C c [] s fun x s => WX C x K s Q) : WK C c K s Q := by
  obtain ⟨k, y, s1, h1, m, z, s2, h2, hq⟩ := h
  refine ⟨max k m, z, s2, ?_, hq⟩
  refine runK_le (Nat.le_max_right k m) K ?_ h2
  intro q hq
  cases hq
  exact exec_le Le.rfl (Nat.le_max_left k m) c h1

/-- an answer, and the run goes on -/
def WV (C : CallT) (v : Option AV) (d : Option Nat) (r : List AOper) (K : List Fr) (tm : List AV) (h : AHeap) (Q : AX → St → Prop) : Prop := match v with
  | some v => WOs C r K ⟨putD tm d v, h⟩ Q
  | none => False
theorem WV_some {v : AV} {d : Option Nat} {r : List AOper} {tm : List AV} {h : AHeap} : WV C (some v) d r K tm h Q ↔ WOs C r K ⟨putD tm d v, h⟩ Q := Iff.rfl
def WA (C : CallT) (v : Option (AObj × AV)) (d : Option Nat) (r : List AOper) (K : List Fr) (tm : List AV) (h : AHeap) (Q : AX → St → Prop) : Prop := match v with
  | some (b, v) => WOs C r K ⟨putD tm d v, h.push b⟩ Q
  | none => False
theorem WA_some {b : AObj} {v : AV} {d : Option Nat} {r : List AOper} {tm : List AV} {h : AHeap} : WA C (some (b, v)) d r K tm h Q ↔ WOs C r K ⟨putD tm d v, h.push b⟩ Q := Iff.rfl
def WE (C : CallT) (v : Option (AV × AHeap)) (d : Option Nat) (r : List AOper) (K : List Fr) (tm : List AV) (Q : AX → St → Prop) : Prop := match v with
  | some (v, h) => WOs C r K ⟨putD tm d v, h⟩ Q
  | none => False
theorem WE_some {v : AV} {h : AHeap} {d : Option Nat} {r : List AOper} {tm : List AV} : WE C (some (v, h)) d r K tm Q ↔ WOs C r K ⟨putD tm d v, h⟩ Q := Iff.rfl
def WDV (C : CallT) (v : Option AV) (op : AOp) (m : Nat) (d : Option Nat) (r : List (AOper × Nat)) (ps : List ((AHeap → Bool) × Nat)) (K : List Fr) (tm : List AV) (h : AHeap) (Q : AX → St → Prop) : Prop := match v, m with
  | some v, 0 => WDs C r ps K ⟨putD tm d v, h⟩ Q
  | some v, m + 1 => WDs C r ((recheck ⟨d, op, none⟩ tm h (match d with | some d => nth (putD tm d v) d | none => aundef), m + 1) :: ps) K ⟨putD tm d v, h⟩ Q
  | none, _ => False
theorem WDV_zero {v : AV} {op : AOp} {d : Option Nat} {r : List (AOper × Nat)} {ps : List ((AHeap → Bool) × Nat)} {tm : List AV} {h : AHeap} : WDV C (some v) op 0 d r ps K tm h Q ↔ WDs C r ps K ⟨putD tm d v, h⟩ Q := Iff.rfl
theorem WDV_succ {v : AV} {op : AOp} {m d : Nat} {r : List (AOper × Nat)} {ps : List ((AHeap → Bool) × Nat)} {tm : List AV} {h : AHeap} : WDV C (some v) op (m + 1) (some d) r ps K tm h Q ↔ WDs C r ((recheck ⟨some d, op, none⟩ tm h (nth (put tm d v) d), m + 1) :: ps) K ⟨put tm d v, h⟩ Q := Iff.rfl
def WDE (C : CallT) (v : Option (AV × AHeap)) (d : Option Nat) (r : List (AOper × Nat)) (ps : List ((AHeap → Bool) × Nat)) (K : List Fr) (tm : List AV) (Q : AX → St → Prop) : Prop := match v with
  | some (v, h) => checks ps h = true ∧ WDs C r (lower ps) K ⟨putD tm d v, h⟩ Q
  | none => False
theorem WDE_some {v : AV} {h : AHeap} {d : Option Nat} {r : List (AOper × Nat)} {ps : List ((AHeap → Bool) × Nat)} {tm : List AV} : WDE C (some (v, h)) d r ps K tm Q ↔ checks ps h = true ∧ WDs C r (lower ps) K ⟨putD tm d v, h⟩ Q := Iff.rfl
theorem WDE_none {v : AV} {h : AHeap} {d : Option Nat} {r : List (AOper × Nat)} {tm : List AV} : WDE C (some (v, h)) d r [] K tm Q ↔ WDs C r [] K ⟨putD tm d v, h⟩ Q := ⟨fun h => h.2, fun h => ⟨rfl, h⟩⟩
theorem putD_some {tm : List AV} {d : Nat} {v : AV} : putD tm (some d) v = put tm d v := rfl
theorem putD_none {tm : List AV} {v : AV} : putD tm none v = tm := rfl
theorem WOs_nil {s : St} : WOs C [] K s Q ↔ WX C .normal K s Q := by
  unfold WOs; simp only [runOps_nil]; simp
theorem WDs_nil {s : St} {ps : List ((AHeap → Bool) × Nat)} : WDs C [] ps K s Q ↔ WX C .normal K s Q := by
  unfold WDs; simp only [runDraw_nil]; simp
section
variable {op : AOp} {d : Option Nat} {r : List AOper} {tm : List AV} {h : AHeap}
theorem WOs_q (hc : op.cls = .q) : WOs C (⟨d, op, none⟩ :: r) K ⟨tm, h⟩ Q ↔ WV C (evalQ op tm h) d r K tm h Q := by
  have e : runOps (⟨d, op, none⟩ :: r) C ⟨tm, h⟩ = (match step1 ⟨d, op, none⟩ C ⟨tm, h⟩ with | some s' => runOps r C s' | none => none) := by rw [runOps_cons]; rfl
  unfold WOs WV
  rw [e, step1_q hc]
  dsimp only
  cases evalQ op tm h with
  | none => simp
  | some v => exact Iff.rfl
theorem WOs_a (hc : op.cls = .a) : WOs C (⟨d, op, none⟩ :: r) K ⟨tm, h⟩ Q ↔ WA C (evalA op tm h) d r K tm h Q := by
  have e : runOps (⟨d, op, none⟩ :: r) C ⟨tm, h⟩ = (match step1 ⟨d, op, none⟩ C ⟨tm, h⟩ with | some s' => runOps r C s' | none => none) := by rw [runOps_cons]; rfl
  unfold WOs WA
  rw [e, step1_a hc]
  dsimp only
  cases evalA op tm h with
  | none => simp
  | some v => exact Iff.rfl
theorem WOs_e (hc : op.cls = .e) : WOs C (⟨d, op, none⟩ :: r) K ⟨tm, h⟩ Q ↔ WE C (evalE op C tm h) d r K tm Q := by
  have e : runOps (⟨d, op, none⟩ :: r) C ⟨tm, h⟩ = (match step1 ⟨d, op, none⟩ C ⟨tm, h⟩ with | some s' => runOps r C s' | none => none) := by rw [runOps_cons]; rfl
  unfold WOs WE
  rw [e, step1_e hc]
  dsimp only
  cases evalE op C tm h with
  | none => simp
  | some v => exact Iff.rfl
def WG (C : CallT) (v : AV) (b : Bool) (d : Option Nat) (op : AOp) (r : List AOper) (K : List Fr) (tm : List AV) (h : AHeap) (Q : AX → St → Prop) : Prop := match v with
  | .bool c => if (c == b) = true then WOs C (⟨d, op, none⟩ :: r) K ⟨tm, h⟩ Q else WOs C r K ⟨putD tm d aundef, h⟩ Q
  | _ => WOs C r K ⟨putD tm d aundef, h⟩ Q
theorem WG_tt : WG C (.bool true) true d op r K tm h Q ↔ WOs C (⟨d, op, none⟩ :: r) K ⟨tm, h⟩ Q := by simp [WG]
theorem WG_ff : WG C (.bool false) false d op r K tm h Q ↔ WOs C (⟨d, op, none⟩ :: r) K ⟨tm, h⟩ Q := by simp [WG]
theorem WG_tf : WG C (.bool true) false d op r K tm h Q ↔ WOs C r K ⟨putD tm d aundef, h⟩ Q := by simp [WG]
theorem WG_ft : WG C (.bool false) true d op r K tm h Q ↔ WOs C r K ⟨putD tm d aundef, h⟩ Q := by simp [WG]
theorem WG_un {b : Bool} : WG C aundef b d op r K tm h Q ↔ WOs C r K ⟨putD tm d aundef, h⟩ Q := Iff.rfl
theorem WG_split {p : Prop} [Decidable p] {b : Bool} (h1 : p → WG C (.bool true) b d op r K tm h Q) (h2 : ¬ p → WG C (.bool false) b d op r K tm h Q) : WG C (.bool (decide p)) b d op r K tm h Q := by
  by_cases hp : p
  · rw [decide_eq_true hp]; exact h1 hp
  · rw [decide_eq_false hp]; exact h2 hp
theorem WOs_g {t : Nat} {b : Bool} : WOs C (⟨d, op, some (t, b)⟩ :: r) K ⟨tm, h⟩ Q ↔ WG C (nth tm t) b d op r K tm h Q := by
  have e : runOps (⟨d, op, some (t, b)⟩ :: r) C ⟨tm, h⟩ = if wanted tm (some (t, b)) = true then runOps (⟨d, op, none⟩ :: r) C ⟨tm, h⟩ else runOps r C ⟨putD tm d aundef, h⟩ := by
    rw [runOps_cons, runOps_cons]
    by_cases hw : wanted tm (some (t, b)) = true
    · rw [if_pos hw, if_pos hw, if_pos (show wanted tm none = true from rfl)]
      cases hc : op.cls with
      | q => rw [step1_q hc, step1_q hc]
      | a => rw [step1_a hc, step1_a hc]
      | e => rw [step1_e hc, step1_e hc]
    · rw [if_neg hw, if_neg hw]
  have e2 : wanted tm (some (t, b)) = (match nth tm t with | .bool c => c == b | _ => false) := rfl
  unfold WOs
  rw [e, e2]
  generalize nth tm t = v
  cases v with
  | bool c =>
    show (∃ s', (if (c == b) = true then _ else _) = some s' ∧ _) ↔ (if (c == b) = true then _ else _)
    by_cases hc : (c == b) = true
    · rw [if_pos hc, if_pos hc]; exact Iff.rfl
    · rw [if_neg hc, if_neg hc]; exact Iff.rfl
  | _ => exact Iff.rfl
end
section
variable {op : AOp} {m : Nat} {d : Option Nat} {r : List (AOper × Nat)} {ps : List ((AHeap → Bool) × Nat)} {tm : List AV} {h : AHeap}
theorem WDs_q (hc : op.cls = .q) : WDs C ((⟨d, op, none⟩, m) :: r) ps K ⟨tm, h⟩ Q ↔ WDV C (evalQ op tm h) op m d r ps K tm h Q := by
  unfold WDs
  rw [runDraw_cons, if_pos (show wanted tm none = true from rfl), step1_q hc]
  unfold WDV
  dsimp only
  cases evalQ op tm h with
  | none => simp
  | some v =>
    simp only [hc]
    cases m with
    | zero => exact Iff.rfl
    | succ m => cases d <;> exact Iff.rfl
theorem WDs_e (hc : op.cls = .e) : WDs C ((⟨d, op, none⟩, m) :: r) ps K ⟨tm, h⟩ Q ↔ WDE C (evalE op C tm h) d r ps K tm Q := by
  unfold WDs
  rw [runDraw_cons, if_pos (show wanted tm none = true from rfl), step1_e hc]
  unfold WDE
  dsimp only
  cases evalE op C tm h with
  | none => simp
  | some v =>
    simp only [hc]
    cases hb : checks ps v.2 with
    | true => simp [WDs]
    | false => simp
end
theorem WOs_mov {d : Option Nat} {r : List AOper} {tm : List AV} {h : AHeap} (x : AOpd) : WOs C (⟨d, (.mov x), none⟩ :: r) K ⟨tm, h⟩ Q ↔ WV C (evalQ (.mov x) tm h) d r K tm h Q := WOs_q rfl
theorem WDs_mov {m : Nat} {d : Option Nat} {r : List (AOper × Nat)} {ps : List ((AHeap → Bool) × Nat)} {tm : List AV} {h : AHeap} (x : AOpd) : WDs C ((⟨d, (.mov x), none⟩, m) :: r) ps K ⟨tm, h⟩ Q ↔ WDV C (evalQ (.mov x) tm h) (.mov x) m d r ps K tm h Q := WDs_q rfl
theorem WOs_pick {d : Option Nat} {r : List AOper} {tm : List AV} {h : AHeap} (c a b : AOpd) : WOs C (⟨d, (.pick c a b), none⟩ :: r) K ⟨tm, h⟩ Q ↔ WV C (evalQ (.pick c a b) tm h) d r K tm h Q := WOs_q rfl
theorem WDs_pick {m : Nat} {d : Option Nat} {r : List (AOper × Nat)} {ps : List ((AHeap → Bool) × Nat)} {tm : List AV} {h : AHeap} (c a b : AOpd) : WDs C ((⟨d, (.pick c a b), none⟩, m) :: r) ps K ⟨tm, h⟩ Q ↔ WDV C (evalQ (.pick c a b) tm h) (.pick c a b) m d r ps K tm h Q := WDs_q rfl
theorem WOs_build {d : Option Nat} {r : List AOper} {tm : List AV} {h : AHeap} (z : List AV) (qs : List (Nat × Nat × AOpd)) : WOs C (⟨d, (.build z qs), none⟩ :: r) K ⟨tm, h⟩ Q ↔ WV C (evalQ (.build z qs) tm h) d r K tm h Q := WOs_q rfl
theorem WDs_build {m : Nat} {d : Option Nat} {r : List (AOper × Nat)} {ps : List ((AHeap → Bool) × Nat)} {tm : List AV} {h : AHeap} (z : List AV) (qs : List (Nat × Nat × AOpd)) : WDs C ((⟨d, (.build z qs), none⟩, m) :: r) ps K ⟨tm, h⟩ Q ↔ WDV C (evalQ (.build z qs) tm h) (.build z qs) m d r ps K tm h Q := WDs_q rfl
theorem WOs_load {d : Option Nat} {r : List AOper} {tm : List AV} {h : AHeap} (n : Option Nat) (a : AOpd) : WOs C (⟨d, (.load n a), none⟩ :: r) K ⟨tm, h⟩ Q ↔ WV C (evalQ (.load n a) tm h) d r K tm h Q := WOs_q rfl
theorem WDs_load {m : Nat} {d : Option Nat} {r : List (AOper × Nat)} {ps : List ((AHeap → Bool) × Nat)} {tm : List AV} {h : AHeap} (n : Option Nat) (a : AOpd) : WDs C ((⟨d, (.load n a), none⟩, m) :: r) ps K ⟨tm, h⟩ Q ↔ WDV C (evalQ (.load n a) tm h) (.load n a) m d r ps K tm h Q := WDs_q rfl
theorem WOs_nilck {d : Option Nat} {r : List AOper} {tm : List AV} {h : AHeap} (x : AOpd) : WOs C (⟨d, (.nilck x), none⟩ :: r) K ⟨tm, h⟩ Q ↔ WV C (evalQ (.nilck x) tm h) d r K tm h Q := WOs_q rfl
theorem WDs_nilck {m : Nat} {d : Option Nat} {r : List (AOper × Nat)} {ps : List ((AHeap → Bool) × Nat)} {tm : List AV} {h : AHeap} (x : AOpd) : WDs C ((⟨d, (.nilck x), none⟩, m) :: r) ps K ⟨tm, h⟩ Q ↔ WDV C (evalQ (.nilck x) tm h) (.nilck x) m d r ps K tm h Q := WDs_q rfl
theorem WOs_bin {d : Option Nat} {r : List AOper} {tm : List AV} {h : AHeap} (op : BinOp) (e : EqK) (x y : AOpd) : WOs C (⟨d, (.bin op e x y), none⟩ :: r) K ⟨tm, h⟩ Q ↔ WV C (evalQ (.bin op e x y) tm h) d r K tm h Q := WOs_q rfl
theorem WDs_bin {m : Nat} {d : Option Nat} {r : List (AOper × Nat)} {ps : List ((AHeap → Bool) × Nat)} {tm : List AV} {h : AHeap} (op : BinOp) (e : EqK) (x y : AOpd) : WDs C ((⟨d, (.bin op e x y), none⟩, m) :: r) ps K ⟨tm, h⟩ Q ↔ WDV C (evalQ (.bin op e x y) tm h) (.bin op e x y) m d r ps K tm h Q := WDs_q rfl
theorem WOs_un {d : Option Nat} {r : List AOper} {tm : List AV} {h : AHeap} (op : UnOp) (x : AOpd) : WOs C (⟨d, (.un op x), none⟩ :: r) K ⟨tm, h⟩ Q ↔ WV C (evalQ (.un op x) tm h) d r K tm h Q := WOs_q rfl
theorem WDs_un {m : Nat} {d : Option Nat} {r : List (AOper × Nat)} {ps : List ((AHeap → Bool) × Nat)} {tm : List AV} {h : AHeap} (op : UnOp) (x : AOpd) : WDs C ((⟨d, (.un op x), none⟩, m) :: r) ps K ⟨tm, h⟩ Q ↔ WDV C (evalQ (.un op x) tm h) (.un op x) m d r ps K tm h Q := WDs_q rfl
theorem WOs_toInt {d : Option Nat} {r : List AOper} {tm : List AV} {h : AHeap} (k : IntKind) (x : AOpd) : WOs C (⟨d, (.toInt k x), none⟩ :: r) K ⟨tm, h⟩ Q ↔ WV C (evalQ (.toInt k x) tm h) d r K tm h Q := WOs_q rfl
theorem WDs_toInt {m : Nat} {d : Option Nat} {r : List (AOper × Nat)} {ps : List ((AHeap → Bool) × Nat)} {tm : List AV} {h : AHeap} (k : IntKind) (x : AOpd) : WDs C ((⟨d, (.toInt k x), none⟩, m) :: r) ps K ⟨tm, h⟩ Q ↔ WDV C (evalQ (.toInt k x) tm h) (.toInt k x) m d r ps K tm h Q := WDs_q rfl
theorem WOs_toStr {d : Option Nat} {r : List AOper} {tm : List AV} {h : AHeap} (x : AOpd) : WOs C (⟨d, (.toStr x), none⟩ :: r) K ⟨tm, h⟩ Q ↔ WV C (evalQ (.toStr x) tm h) d r K tm h Q := WOs_q rfl
theorem WDs_toStr {m : Nat} {d : Option Nat} {r : List (AOper × Nat)} {ps : List ((AHeap → Bool) × Nat)} {tm : List AV} {h : AHeap} (x : AOpd) : WDs C ((⟨d, (.toStr x), none⟩, m) :: r) ps K ⟨tm, h⟩ Q ↔ WDV C (evalQ (.toStr x) tm h) (.toStr x) m d r ps K tm h Q := WDs_q rfl
theorem WOs_iface {d : Option Nat} {r : List AOper} {tm : List AV} {h : AHeap} (t : Nat) (x : AOpd) : WOs C (⟨d, (.iface t x), none⟩ :: r) K ⟨tm, h⟩ Q ↔ WV C (evalQ (.iface t x) tm h) d r K tm h Q := WOs_q rfl
theorem WDs_iface {m : Nat} {d : Option Nat} {r : List (AOper × Nat)} {ps : List ((AHeap → Bool) × Nat)} {tm : List AV} {h : AHeap} (t : Nat) (x : AOpd) : WDs C ((⟨d, (.iface t x), none⟩, m) :: r) ps K ⟨tm, h⟩ Q ↔ WDV C (evalQ (.iface t x) tm h) (.iface t x) m d r ps K tm h Q := WDs_q rfl
theorem WOs_mkfn {d : Option Nat} {r : List AOper} {tm : List AV} {h : AHeap} (f : Fn) (fs cs : List AOpd) : WOs C (⟨d, (.mkfn f fs cs), none⟩ :: r) K ⟨tm, h⟩ Q ↔ WV C (evalQ (.mkfn f fs cs) tm h) d r K tm h Q := WOs_q rfl
theorem WDs_mkfn {m : Nat} {d : Option Nat} {r : List (AOper × Nat)} {ps : List ((AHeap → Bool) × Nat)} {tm : List AV} {h : AHeap} (f : Fn) (fs cs : List AOpd) : WDs C ((⟨d, (.mkfn f fs cs), none⟩, m) :: r) ps K ⟨tm, h⟩ Q ↔ WDV C (evalQ (.mkfn f fs cs) tm h) (.mkfn f fs cs) m d r ps K tm h Q := WDs_q rfl
theorem WOs_slice {d : Option Nat} {r : List AOper} {tm : List AV} {h : AHeap} (sz : Nat) (x : AOpd) (lo hi mx : Option AOpd) : WOs C (⟨d, (.slice sz x lo hi mx), none⟩ :: r) K ⟨tm, h⟩ Q ↔ WV C (evalQ (.slice sz x lo hi mx) tm h) d r K tm h Q := WOs_q rfl
theorem WDs_slice {m : Nat} {d : Option Nat} {r : List (AOper × Nat)} {ps : List ((AHeap → Bool) × Nat)} {tm : List AV} {h : AHeap} (sz : Nat) (x : AOpd) (lo hi mx : Option AOpd) : WDs C ((⟨d, (.slice sz x lo hi mx), none⟩, m) :: r) ps K ⟨tm, h⟩ Q ↔ WDV C (evalQ (.slice sz x lo hi mx) tm h) (.slice sz x lo hi mx) m d r ps K tm h Q := WDs_q rfl
theorem WOs_sliceA {d : Option Nat} {r : List AOper} {tm : List AV} {h : AHeap} (n sz : Nat) (x : AOpd) (lo hi mx : Option AOpd) : WOs C (⟨d, (.sliceA n sz x lo hi mx), none⟩ :: r) K ⟨tm, h⟩ Q ↔ WV C (evalQ (.sliceA n sz x lo hi mx) tm h) d r K tm h Q := WOs_q rfl
theorem WDs_sliceA {m : Nat} {d : Option Nat} {r : List (AOper × Nat)} {ps : List ((AHeap → Bool) × Nat)} {tm : List AV} {h : AHeap} (n sz : Nat) (x : AOpd) (lo hi mx : Option AOpd) : WDs C ((⟨d, (.sliceA n sz x lo hi mx), none⟩, m) :: r) ps K ⟨tm, h⟩ Q ↔ WDV C (evalQ (.sliceA n sz x lo hi mx) tm h) (.sliceA n sz x lo hi mx) m d r ps K tm h Q := WDs_q rfl
theorem WOs_substr {d : Option Nat} {r : List AOper} {tm : List AV} {h : AHeap} (x : AOpd) (lo hi : Option AOpd) : WOs C (⟨d, (.substr x lo hi), none⟩ :: r) K ⟨tm, h⟩ Q ↔ WV C (evalQ (.substr x lo hi) tm h) d r K tm h Q := WOs_q rfl
theorem WDs_substr {m : Nat} {d : Option Nat} {r : List (AOper × Nat)} {ps : List ((AHeap → Bool) × Nat)} {tm : List AV} {h : AHeap} (x : AOpd) (lo hi : Option AOpd) : WDs C ((⟨d, (.substr x lo hi), none⟩, m) :: r) ps K ⟨tm, h⟩ Q ↔ WDV C (evalQ (.substr x lo hi) tm h) (.substr x lo hi) m d r ps K tm h Q := WDs_q rfl
theorem WOs_faddr {d : Option Nat} {r : List AOper} {tm : List AV} {h : AHeap} (off : Nat) (x : AOpd) : WOs C (⟨d, (.faddr off x), none⟩ :: r) K ⟨tm, h⟩ Q ↔ WV C (evalQ (.faddr off x) tm h) d r K tm h Q := WOs_q rfl
theorem WDs_faddr {m : Nat} {d : Option Nat} {r : List (AOper × Nat)} {ps : List ((AHeap → Bool) × Nat)} {tm : List AV} {h : AHeap} (off : Nat) (x : AOpd) : WDs C ((⟨d, (.faddr off x), none⟩, m) :: r) ps K ⟨tm, h⟩ Q ↔ WDV C (evalQ (.faddr off x) tm h) (.faddr off x) m d r ps K tm h Q := WDs_q rfl
theorem WOs_field {d : Option Nat} {r : List AOper} {tm : List AV} {h : AHeap} (off : Nat) (n : Option Nat) (x : AOpd) : WOs C (⟨d, (.field off n x), none⟩ :: r) K ⟨tm, h⟩ Q ↔ WV C (evalQ (.field off n x) tm h) d r K tm h Q := WOs_q rfl
theorem WDs_field {m : Nat} {d : Option Nat} {r : List (AOper × Nat)} {ps : List ((AHeap → Bool) × Nat)} {tm : List AV} {h : AHeap} (off : Nat) (n : Option Nat) (x : AOpd) : WDs C ((⟨d, (.field off n x), none⟩, m) :: r) ps K ⟨tm, h⟩ Q ↔ WDV C (evalQ (.field off n x) tm h) (.field off n x) m d r ps K tm h Q := WDs_q rfl
theorem WOs_iaddr {d : Option Nat} {r : List AOper} {tm : List AV} {h : AHeap} (arr : Option Nat) (sz : Nat) (x i : AOpd) : WOs C (⟨d, (.iaddr arr sz x i), none⟩ :: r) K ⟨tm, h⟩ Q ↔ WV C (evalQ (.iaddr arr sz x i) tm h) d r K tm h Q := WOs_q rfl
theorem WDs_iaddr {m : Nat} {d : Option Nat} {r : List (AOper × Nat)} {ps : List ((AHeap → Bool) × Nat)} {tm : List AV} {h : AHeap} (arr : Option Nat) (sz : Nat) (x i : AOpd) : WDs C ((⟨d, (.iaddr arr sz x i), none⟩, m) :: r) ps K ⟨tm, h⟩ Q ↔ WDV C (evalQ (.iaddr arr sz x i) tm h) (.iaddr arr sz x i) m d r ps K tm h Q := WDs_q rfl
theorem WOs_index {d : Option Nat} {r : List AOper} {tm : List AV} {h : AHeap} (len sz : Nat) (n : Option Nat) (x i : AOpd) : WOs C (⟨d, (.index len sz n x i), none⟩ :: r) K ⟨tm, h⟩ Q ↔ WV C (evalQ (.index len sz n x i) tm h) d r K tm h Q := WOs_q rfl
theorem WDs_index {m : Nat} {d : Option Nat} {r : List (AOper × Nat)} {ps : List ((AHeap → Bool) × Nat)} {tm : List AV} {h : AHeap} (len sz : Nat) (n : Option Nat) (x i : AOpd) : WDs C ((⟨d, (.index len sz n x i), none⟩, m) :: r) ps K ⟨tm, h⟩ Q ↔ WDV C (evalQ (.index len sz n x i) tm h) (.index len sz n x i) m d r ps K tm h Q := WDs_q rfl
theorem WOs_indexS {d : Option Nat} {r : List AOper} {tm : List AV} {h : AHeap} (x i : AOpd) : WOs C (⟨d, (.indexS x i), none⟩ :: r) K ⟨tm, h⟩ Q ↔ WV C (evalQ (.indexS x i) tm h) d r K tm h Q := WOs_q rfl
theorem WDs_indexS {m : Nat} {d : Option Nat} {r : List (AOper × Nat)} {ps : List ((AHeap → Bool) × Nat)} {tm : List AV} {h : AHeap} (x i : AOpd) : WDs C ((⟨d, (.indexS x i), none⟩, m) :: r) ps K ⟨tm, h⟩ Q ↔ WDV C (evalQ (.indexS x i) tm h) (.indexS x i) m d r ps K tm h Q := WDs_q rfl
theorem WOs_lookup {d : Option Nat} {r : List AOper} {tm : List AV} {h : AHeap} (ks : KeyK) (zero : AV) (ok : Bool) (a k : AOpd) : WOs C (⟨d, (.lookup ks zero ok a k), none⟩ :: r) K ⟨tm, h⟩ Q ↔ WV C (evalQ (.lookup ks zero ok a k) tm h) d r K tm h Q := WOs_q rfl
theorem WDs_lookup {m : Nat} {d : Option Nat} {r : List (AOper × Nat)} {ps : List ((AHeap → Bool) × Nat)} {tm : List AV} {h : AHeap} (ks : KeyK) (zero : AV) (ok : Bool) (a k : AOpd) : WDs C ((⟨d, (.lookup ks zero ok a k), none⟩, m) :: r) ps K ⟨tm, h⟩ Q ↔ WDV C (evalQ (.lookup ks zero ok a k) tm h) (.lookup ks zero ok a k) m d r ps K tm h Q := WDs_q rfl
theorem WOs_extr {d : Option Nat} {r : List AOper} {tm : List AV} {h : AHeap} (i : Nat) (x : AOpd) : WOs C (⟨d, (.extr i x), none⟩ :: r) K ⟨tm, h⟩ Q ↔ WV C (evalQ (.extr i x) tm h) d r K tm h Q := WOs_q rfl
theorem WDs_extr {m : Nat} {d : Option Nat} {r : List (AOper × Nat)} {ps : List ((AHeap → Bool) × Nat)} {tm : List AV} {h : AHeap} (i : Nat) (x : AOpd) : WDs C ((⟨d, (.extr i x), none⟩, m) :: r) ps K ⟨tm, h⟩ Q ↔ WDV C (evalQ (.extr i x) tm h) (.extr i x) m d r ps K tm h Q := WDs_q rfl
theorem WOs_len {d : Option Nat} {r : List AOper} {tm : List AV} {h : AHeap} (k : Nat) (x : AOpd) : WOs C (⟨d, (.len k x), none⟩ :: r) K ⟨tm, h⟩ Q ↔ WV C (evalQ (.len k x) tm h) d r K tm h Q := WOs_q rfl
theorem WDs_len {m : Nat} {d : Option Nat} {r : List (AOper × Nat)} {ps : List ((AHeap → Bool) × Nat)} {tm : List AV} {h : AHeap} (k : Nat) (x : AOpd) : WDs C ((⟨d, (.len k x), none⟩, m) :: r) ps K ⟨tm, h⟩ Q ↔ WDV C (evalQ (.len k x) tm h) (.len k x) m d r ps K tm h Q := WDs_q rfl
theorem WOs_lenA {d : Option Nat} {r : List AOper} {tm : List AV} {h : AHeap} (n : Nat) : WOs C (⟨d, (.lenA n), none⟩ :: r) K ⟨tm, h⟩ Q ↔ WV C (evalQ (.lenA n) tm h) d r K tm h Q := WOs_q rfl
theorem WDs_lenA {m : Nat} {d : Option Nat} {r : List (AOper × Nat)} {ps : List ((AHeap → Bool) × Nat)} {tm : List AV} {h : AHeap} (n : Nat) : WDs C ((⟨d, (.lenA n), none⟩, m) :: r) ps K ⟨tm, h⟩ Q ↔ WDV C (evalQ (.lenA n) tm h) (.lenA n) m d r ps K tm h Q := WDs_q rfl
theorem WOs_mx {d : Option Nat} {r : List AOper} {tm : List AV} {h : AHeap} (xs : List AOpd) : WOs C (⟨d, (.mx xs), none⟩ :: r) K ⟨tm, h⟩ Q ↔ WV C (evalQ (.mx xs) tm h) d r K tm h Q := WOs_q rfl
theorem WDs_mx {m : Nat} {d : Option Nat} {r : List (AOper × Nat)} {ps : List ((AHeap → Bool) × Nat)} {tm : List AV} {h : AHeap} (xs : List AOpd) : WDs C ((⟨d, (.mx xs), none⟩, m) :: r) ps K ⟨tm, h⟩ Q ↔ WDV C (evalQ (.mx xs) tm h) (.mx xs) m d r ps K tm h Q := WDs_q rfl
theorem WOs_mn {d : Option Nat} {r : List AOper} {tm : List AV} {h : AHeap} (xs : List AOpd) : WOs C (⟨d, (.mn xs), none⟩ :: r) K ⟨tm, h⟩ Q ↔ WV C (evalQ (.mn xs) tm h) d r K tm h Q := WOs_q rfl
theorem WDs_mn {m : Nat} {d : Option Nat} {r : List (AOper × Nat)} {ps : List ((AHeap → Bool) × Nat)} {tm : List AV} {h : AHeap} (xs : List AOpd) : WDs C ((⟨d, (.mn xs), none⟩, m) :: r) ps K ⟨tm, h⟩ Q ↔ WDV C (evalQ (.mn xs) tm h) (.mn xs) m d r ps K tm h Q := WDs_q rfl
theorem WOs_alloc {d : Option Nat} {r : List AOper} {tm : List AV} {h : AHeap} (z : List AV) : WOs C (⟨d, (.alloc z), none⟩ :: r) K ⟨tm, h⟩ Q ↔ WA C (evalA (.alloc z) tm h) d r K tm h Q := WOs_a rfl
theorem WOs_box {d : Option Nat} {r : List AOper} {tm : List AV} {h : AHeap} (x : AOpd) : WOs C (⟨d, (.box x), none⟩ :: r) K ⟨tm, h⟩ Q ↔ WA C (evalA (.box x) tm h) d r K tm h Q := WOs_a rfl
theorem WOs_bslice {d : Option Nat} {r : List AOper} {tm : List AV} {h : AHeap} (len sz : Nat) (z : List AV) (qs : List (Nat × AOpd)) : WOs C (⟨d, (.bslice len sz z qs), none⟩ :: r) K ⟨tm, h⟩ Q ↔ WA C (evalA (.bslice len sz z qs) tm h) d r K tm h Q := WOs_a rfl
theorem WOs_mkmap {d : Option Nat} {r : List AOper} {tm : List AV} {h : AHeap}  : WOs C (⟨d, .mkmap, none⟩ :: r) K ⟨tm, h⟩ Q ↔ WA C (evalA .mkmap tm h) d r K tm h Q := WOs_a rfl
theorem WOs_mkslice {d : Option Nat} {r : List AOper} {tm : List AV} {h : AHeap} (sz bytes : Nat) (z : List AV) (l c : AOpd) : WOs C (⟨d, (.mkslice sz bytes z l c), none⟩ :: r) K ⟨tm, h⟩ Q ↔ WA C (evalA (.mkslice sz bytes z l c) tm h) d r K tm h Q := WOs_a rfl
theorem WOs_toBytes {d : Option Nat} {r : List AOper} {tm : List AV} {h : AHeap} (x : AOpd) : WOs C (⟨d, (.toBytes x), none⟩ :: r) K ⟨tm, h⟩ Q ↔ WA C (evalA (.toBytes x) tm h) d r K tm h Q := WOs_a rfl
theorem WOs_store {d : Option Nat} {r : List AOper} {tm : List AV} {h : AHeap} (n : Nat) (a x : AOpd) : WOs C (⟨d, (.store n a x), none⟩ :: r) K ⟨tm, h⟩ Q ↔ WE C (evalE (.store n a x) C tm h) d r K tm Q := WOs_e rfl
theorem WDs_store {m : Nat} {d : Option Nat} {r : List (AOper × Nat)} {ps : List ((AHeap → Bool) × Nat)} {tm : List AV} {h : AHeap} (n : Nat) (a x : AOpd) : WDs C ((⟨d, (.store n a x), none⟩, m) :: r) ps K ⟨tm, h⟩ Q ↔ WDE C (evalE (.store n a x) C tm h) d r ps K tm Q := WDs_e rfl
theorem WOs_mupd {d : Option Nat} {r : List AOper} {tm : List AV} {h : AHeap} (ks : KeyK) (a k v : AOpd) : WOs C (⟨d, (.mupd ks a k v), none⟩ :: r) K ⟨tm, h⟩ Q ↔ WE C (evalE (.mupd ks a k v) C tm h) d r K tm Q := WOs_e rfl
theorem WDs_mupd {m : Nat} {d : Option Nat} {r : List (AOper × Nat)} {ps : List ((AHeap → Bool) × Nat)} {tm : List AV} {h : AHeap} (ks : KeyK) (a k v : AOpd) : WDs C ((⟨d, (.mupd ks a k v), none⟩, m) :: r) ps K ⟨tm, h⟩ Q ↔ WDE C (evalE (.mupd ks a k v) C tm h) d r ps K tm Q := WDs_e rfl
theorem WOs_call {d : Option Nat} {r : List AOper} {tm : List AV} {h : AHeap} (f : AOpd) (args : List AOpd) : WOs C (⟨d, (.call f args), none⟩ :: r) K ⟨tm, h⟩ Q ↔ WE C (evalE (.call f args) C tm h) d r K tm Q := WOs_e rfl
theorem WDs_call {m : Nat} {d : Option Nat} {r : List (AOper × Nat)} {ps : List ((AHeap → Bool) × Nat)} {tm : List AV} {h : AHeap} (f : AOpd) (args : List AOpd) : WDs C ((⟨d, (.call f args), none⟩, m) :: r) ps K ⟨tm, h⟩ Q ↔ WDE C (evalE (.call f args) C tm h) d r ps K tm Q := WDs_e rfl
theorem WOs_append {d : Option Nat} {r : List AOper} {tm : List AV} {h : AHeap} (sz bytes : Nat) (z : List AV) (s x : AOpd) : WOs C (⟨d, (.append sz bytes z s x), none⟩ :: r) K ⟨tm, h⟩ Q ↔ WE C (evalE (.append sz bytes z s x) C tm h) d r K tm Q := WOs_e rfl
theorem WDs_append {m : Nat} {d : Option Nat} {r : List (AOper × Nat)} {ps : List ((AHeap → Bool) × Nat)} {tm : List AV} {h : AHeap} (sz bytes : Nat) (z : List AV) (s x : AOpd) : WDs C ((⟨d, (.append sz bytes z s x), none⟩, m) :: r) ps K ⟨tm, h⟩ Q ↔ WDE C (evalE (.append sz bytes z s x) C tm h) d r ps K tm Q := WDs_e rfl
theorem WOs_copy {d : Option Nat} {r : List AOper} {tm : List AV} {h : AHeap} (sz : Nat) (x s : AOpd) : WOs C (⟨d, (.copy sz x s), none⟩ :: r) K ⟨tm, h⟩ Q ↔ WE C (evalE (.copy sz x s) C tm h) d r K tm Q := WOs_e rfl
theorem WDs_copy {m : Nat} {d : Option Nat} {r : List (AOper × Nat)} {ps : List ((AHeap → Bool) × Nat)} {tm : List AV} {h : AHeap} (sz : Nat) (x s : AOpd) : WDs C ((⟨d, (.copy sz x s), none⟩, m) :: r) ps K ⟨tm, h⟩ Q ↔ WDE C (evalE (.copy sz x s) C tm h) d r ps K tm Q := WDs_e rfl
end
section
variable {T : FnTab} {I : Oracle}
/-- a function's call, from a walk through its body -/
theorem lim_walk {f : Nat} {fn : AFn} (hT : T f = some fn) {a : List AV} {h h' : AHeap} {v : AV} (hI : I f a h = none)
    (hw : WK (lim T I) fn.body [] ⟨a ++ List.replicate (fn.nt - a.length) aundef, h⟩ fun x s => (∀ i, x ≠ .exit i) ∧ result fn.res s.tm s.h = some v ∧ s.h = h') : lim T I (.fn f) a h = some (v, h') := by
  obtain ⟨k, x, s, e, h1, h2, h3⟩ := hw
  refine lim_fn hT hI (k := k) ?_
  have e' : exec fn.body (lim T I) k ⟨a ++ List.replicate (fn.nt - a.length) aundef, h⟩ = some (x, s) := e
  rw [e']
  cases x with
  | normal => subst h3; simp only [finish, h2]
  | ret => subst h3; simp only [finish, h2]
  | exit i => exact absurd rfl (h1 i)
/-- the same where the heap that comes out is not told -/
theorem lim_walk_ex {f : Nat} {fn : AFn} (hT : T f = some fn) {a : List AV} {h : AHeap} {P : AV → AHeap → Prop} (hI : I f a h = none)
    (hw : WK (lim T I) fn.body [] ⟨a ++ List.replicate (fn.nt - a.length) aundef, h⟩ fun x s => (∀ i, x ≠ .exit i) ∧ ∃ v, result fn.res s.tm s.h = some v ∧ P v s.h) : ∃ v h', lim T I (.fn f) a h = some (v, h') ∧ P v h' := by
  obtain ⟨k, x, s, e, h1, v, h2, h3⟩ := hw
  exact ⟨v, s.h, lim_walk hT hI ⟨k, x, s, e, h1, h2, rfl⟩, h3⟩
end
end Go.AM
