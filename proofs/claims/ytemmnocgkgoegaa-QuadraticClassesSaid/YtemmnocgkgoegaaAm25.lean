/- Functions without a body: the sum and the difference of two words with a carry. No condition. -/
import Derived.Test.YtemmnocgkgoegaaAm24
import Derived.Laws.Externs
namespace Go.AM
open Go

theorem IOK.extern {P : Program} {I : Oracle} (hI : IOK P I) {g : FuncId} {F : Func} {e : Array Value → Sem Value} (hf : P.funcs[g]? = some F) (hname : (F.name == "runtime.NumGoroutine") = false) (hb : F.body.isNone = true) (hn : Extern.findNext F = Option.none)
    (he : Extern.find F = some e) {spec : List AV → Option AV}
    (hsp : ∀ args av, spec args = some av → AV.plains args = true ∧ ∀ (ρ : Rho) (args' : Array Value) (w : World), VRs ρ args args'.toList → ∃ v, (e args').run P w = .ok v w ∧ VR ρ av v) : IOK P (ext I g spec) := by
  refine ⟨?_, ?_⟩
  · intro f args av h h' hx ρ B w args' hs ha
    unfold ext at hx
    cases hfg : Nat.beq f g with
    | false => rw [hfg] at hx; exact hI.sound f args av h h' hx ρ B w args' hs ha
    | true =>
      have e1 := Nat.eq_of_beq_eq_true hfg
      subst e1
      rw [hfg] at hx
      simp only [cond_true] at hx
      split at hx
      · rename_i av' hav
        cases hx
        obtain ⟨v, h1, h2⟩ := (hsp _ _ hav).2 ρ args' w ha
        rw [run_callFunc_extern hf hname hb hn he, h1]
        exact ⟨ρ, h2, Stp.refl hs⟩
      · exact hI.sound _ args av h h' hx ρ B w args' hs ha
  · intro f args r h hx l
    unfold ext at hx
    cases hfg : Nat.beq f g with
    | false => rw [hfg] at hx; exact hI.plain f args r h hx l
    | true =>
      rw [hfg] at hx
      simp only [cond_true] at hx
      split at hx
      · rename_i av' hav
        exact plains_noyield (hsp _ _ hav).1 l
      · exact hI.plain f args r h hx l

def add64S (args : List AV) : Option AV := match args with
  | [.int .u64 x, .int .u64 y, .int .u64 c] => if c.toNat ≤ 1 then some (.tup [.int .u64 (((x.toNat + y.toNat + c.toNat) % 18446744073709551616 : Nat) : Int), .int .u64 (((x.toNat + y.toNat + c.toNat) / 18446744073709551616 : Nat) : Int)]) else none
  | _ => none
def sub64S (args : List AV) : Option AV := match args with
  | [.int .u64 x, .int .u64 y, .int .u64 c] => if c.toNat ≤ 1 then some (.tup [.int .u64 (((x.toNat + 18446744073709551616 - y.toNat - c.toNat) % 18446744073709551616 : Nat) : Int), .int .u64 (((if x.toNat < y.toNat + c.toNat then 1 else 0) : Nat) : Int)]) else none
  | _ => none

def sub64E : Array Value → Sem Value := fun args => do
  let (x, y, b) ← Extern.MathBitsCarry.three "Sub64" args
  pure (Extern.MathBitsCarry.pair ((x + Extern.MathBitsCarry.m64 - y - b) % Extern.MathBitsCarry.m64) (if x < y + b then 1 else 0))

theorem small_int (p : Int → Prop) (h0 : p (Int.ofNat 0)) (h1 : p (Int.ofNat 1)) (hn : ∀ m, p (Int.negSucc m)) : ∀ c : Int, c.toNat ≤ 1 → p c
  | .ofNat 0, _ => h0
  | .ofNat 1, _ => h1
  | .ofNat (n + 2), h => by simp at h; omega
  | .negSucc m, _ => hn m

theorem three_args {ρ : Rho} {x y c : Int} {args' : Array Value} (h : VRs ρ [.int .u64 x, .int .u64 y, .int .u64 c] args'.toList) : args' = #[.int .u64 x, .int .u64 y, .int .u64 c] := by
  apply Array.ext'
  generalize args'.toList = l at h
  cases h with
  | cons h1 h =>
    cases h1
    cases h with
    | cons h2 h =>
      cases h2
      cases h with
      | cons h3 h => cases h3; cases h; rfl

theorem add64_ok {P : Program} {args : List AV} {av : AV} (h : add64S args = some av) : AV.plains args = true ∧ ∀ (ρ : Rho) (args' : Array Value) (w : World), VRs ρ args args'.toList → ∃ v, (add64Entry args').run P w = .ok v w ∧ VR ρ av v := by
  unfold add64S at h
  split at h <;> first | (cases h; done) | skip
  rename_i x y c
  split at h <;> cases h
  rename_i hc
  refine ⟨rfl, fun ρ args' w ha => ?_⟩
  rw [three_args ha]
  refine ⟨Extern.MathBitsCarry.pair ((x.toNat + y.toNat + c.toNat) % Extern.MathBitsCarry.m64) ((x.toNat + y.toNat + c.toNat) / Extern.MathBitsCarry.m64), ?_, .tup (.cons (.int _ _) (.cons (.int _ _) .nil))⟩
  exact small_int (fun c => (add64Entry #[.int .u64 x, .int .u64 y, .int .u64 c]).run P w = .ok (Extern.MathBitsCarry.pair ((x.toNat + y.toNat + c.toNat) % Extern.MathBitsCarry.m64) ((x.toNat + y.toNat + c.toNat) / Extern.MathBitsCarry.m64)) w) rfl rfl (fun _ => rfl) c hc

theorem sub64_ok {P : Program} {args : List AV} {av : AV} (h : sub64S args = some av) : AV.plains args = true ∧ ∀ (ρ : Rho) (args' : Array Value) (w : World), VRs ρ args args'.toList → ∃ v, (sub64E args').run P w = .ok v w ∧ VR ρ av v := by
  unfold sub64S at h
  split at h <;> first | (cases h; done) | skip
  rename_i x y c
  split at h <;> cases h
  rename_i hc
  refine ⟨rfl, fun ρ args' w ha => ?_⟩
  rw [three_args ha]
  refine ⟨Extern.MathBitsCarry.pair ((x.toNat + Extern.MathBitsCarry.m64 - y.toNat - c.toNat) % Extern.MathBitsCarry.m64) (if x.toNat < y.toNat + c.toNat then 1 else 0), ?_, .tup (.cons (.int _ _) (.cons (.int _ _) .nil))⟩
  exact small_int (fun c => (sub64E #[.int .u64 x, .int .u64 y, .int .u64 c]).run P w = .ok (Extern.MathBitsCarry.pair ((x.toNat + Extern.MathBitsCarry.m64 - y.toNat - c.toNat) % Extern.MathBitsCarry.m64) (if x.toNat < y.toNat + c.toNat then 1 else 0)) w) rfl rfl (fun _ => rfl) c hc
end Go.AM
