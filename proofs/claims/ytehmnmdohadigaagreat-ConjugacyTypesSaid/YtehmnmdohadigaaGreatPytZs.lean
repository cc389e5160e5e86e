/- Short words for the printed functions. No condition. -/
import Derived.Test.YtehmnmdohadigaaGreatPya2
namespace Go.AM.Z
open Go
def t (n : Nat) : AOpd := .tmp n
def f (n : Nat) : AOpd := .lit (.fn (.func n) [] [])
def i (n : Int) : AOpd := .lit (.int .i64 n)
def q (d : Nat) (o : AOp) : AOper := ⟨some d,o,none⟩
def m (d s : Nat) : AOper := ⟨some d,.mov (.tmp s),none⟩
def l (d : Nat) (x : AOpd) : AOper := ⟨some d,.mov x,none⟩
def b (d : Nat) (o : BinOp) (x y : AOpd) : AOper := ⟨some d,.bin o .no x y,none⟩
def c (d : Nat) (g : AOpd) (args : List AOpd) : AOper := ⟨some d,.call g args,none⟩
def w (d : Nat) (o : AOp) (g : Nat) (v : Bool) : AOper := ⟨some d,o,some (g,v)⟩
def u (l : List Nat) : List (Option Nat) := l.map fun k => match k with | 0 => none | k+1 => some k
end Go.AM.Z
