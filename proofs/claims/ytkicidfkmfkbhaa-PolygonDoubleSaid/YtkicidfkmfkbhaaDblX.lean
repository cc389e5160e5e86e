/- PolygonDouble: the code behind its first statement, and its state there. No condition. -/
import Derived.Test.YtkicidfkmfkbhaaAwake
import Derived.Test.YtkicidfkmfkbhaaAm28
set_option maxRecDepth 1000000
namespace Go.AM
open Go
noncomputable def rest6 : ACode := match af6.body with | .seq _ (.seq _ r) => r | c => c
def st6 (z0 z1 z2 z3 z4 z5 z6 z7 : AV) (m n : Int) : List AV := [z0, z1, aundef, aundef, .bool false, .int .i64 m, .int .i64 n, aundef, aundef, aundef, aundef, aundef, aundef, aundef, aundef, aundef, aundef, aundef, aundef, aundef, aundef, z2, z3, z4, .int .i64 m, z5, z6, z7, .int .i64 n, aundef, aundef, aundef, aundef, aundef, aundef, aundef, aundef, aundef, aundef, aundef, aundef, aundef, aundef, aundef, aundef, aundef, aundef, aundef, aundef, aundef, aundef, aundef, aundef, aundef, aundef, aundef, aundef, aundef, aundef, aundef, aundef, aundef, aundef, aundef, aundef, aundef, aundef, aundef, aundef, aundef, aundef, aundef, aundef, aundef, aundef, aundef, aundef, aundef, aundef, aundef, aundef, aundef, aundef, aundef, aundef, aundef, aundef, aundef, aundef, aundef, aundef, aundef, aundef, aundef, aundef, aundef, aundef, aundef, aundef, aundef, aundef, aundef, aundef, aundef, aundef, aundef, aundef, aundef, aundef, aundef, aundef, aundef, aundef, aundef, aundef, aundef, aundef, aundef, aundef, aundef, aundef, aundef, aundef]
noncomputable def run6 (z0 z1 z2 z3 z4 z5 z6 z7 : AV) (m n : Nat) : Bool := isT (finish [.tmp 4] (exec rest6 (callF tab.get awakeI 100000) 100000 ⟨st6 z0 z1 z2 z3 z4 z5 z6 z7 (m : Int) (n : Int), .empty⟩))
theorem le_lim {T : FnTab} {I : Oracle} {n : Nat} : Le (callF T I n) (lim T I) := fun _ _ _ _ e => lim_iff.2 ⟨n, e⟩
theorem dblPre (a b : Int) (ha : 0 ≤ a) (ha' : a < 256) (hb : 0 ≤ b) (hb' : b < 256) (h : isT (finish [.tmp 4] (exec rest6 (callF tab.get awakeI 100000) 100000 ⟨st6 (.int .u8 a) (.int .u8 b) (.int .u8 a) (.int .i64 a) (.int .i64 (a % 13)) (.int .u8 b) (.int .i64 b) (.int .i64 (b % 13)) (3 + a % 13) (3 + b % 13), .empty⟩)) = true) :
    ∃ n h', callF tab.get awakeI n (.fn 6) [.int .u8 a, .int .u8 b] .empty = some (.bool true, h') := by
  have key : ∃ v h', lim tab.get awakeI (.fn 6) [.int .u8 a, .int .u8 b] .empty = some (v, h') ∧ v = .bool true := by
    refine lim_walk_ex (P := fun v _ => v = .bool true) (fn := af6) rfl rfl ?_
    show WK _ (.seq _ (.seq _ rest6)) [] ⟨[.int .u8 a, .int .u8 b] ++ List.replicate 121 aundef, _⟩ _
    rw [show ([.int .u8 a, .int .u8 b] ++ List.replicate 121 aundef : List AV) = [.int .u8 a, .int .u8 b, aundef, aundef, aundef, aundef, aundef, aundef, aundef, aundef, aundef, aundef, aundef, aundef, aundef, aundef, aundef, aundef, aundef, aundef, aundef, aundef, aundef, aundef, aundef, aundef, aundef, aundef, aundef, aundef, aundef, aundef, aundef, aundef, aundef, aundef, aundef, aundef, aundef, aundef, aundef, aundef, aundef, aundef, aundef, aundef, aundef, aundef, aundef, aundef, aundef, aundef, aundef, aundef, aundef, aundef, aundef, aundef, aundef, aundef, aundef, aundef, aundef, aundef, aundef, aundef, aundef, aundef, aundef, aundef, aundef, aundef, aundef, aundef, aundef, aundef, aundef, aundef, aundef, aundef, aundef, aundef, aundef, aundef, aundef, aundef, aundef, aundef, aundef, aundef, aundef, aundef, aundef, aundef, aundef, aundef, aundef, aundef, aundef, aundef, aundef, aundef, aundef, aundef, aundef, aundef, aundef, aundef, aundef, aundef, aundef, aundef, aundef, aundef, aundef, aundef, aundef, aundef, aundef, aundef, aundef, aundef, aundef] from rfl]
    simp (disch := omega) only [WK_seq, WX_seq, WK_ops, WOs_mov, WOs_nil, WV_some, putD_some, evalQ_mov, evalQ_bin, evalQ_toInt, ev_tmp, ev_lit, nth_zero, nth_succ, put_zero, put_succ, WOs_toInt, WOs_bin, toIntV_i64, rem_pos, add_i64]
    obtain ⟨h', e⟩ := isT_eq h
    have e2 : ∃ x s, exec rest6 (callF tab.get awakeI 100000) 100000 ⟨st6 (.int .u8 a) (.int .u8 b) (.int .u8 a) (.int .i64 a) (.int .i64 (a % 13)) (.int .u8 b) (.int .i64 b) (.int .i64 (b % 13)) (3 + a % 13) (3 + b % 13), .empty⟩ = some (x, s) ∧ (∀ i, x ≠ .exit i) ∧ result [.tmp 4] s.tm s.h = some (.bool true) := by
      generalize exec rest6 _ _ _ = r at e ⊢
      unfold finish at e
      split at e
      · rename_i s
        split at e
        · rename_i v hv; cases e; exact ⟨_, _, rfl, (fun i hi => by cases hi), hv⟩
        · cases e
      · rename_i s
        split at e
        · rename_i v hv; cases e; exact ⟨_, _, rfl, (fun i hi => by cases hi), hv⟩
        · cases e
      · cases e
    obtain ⟨x, s, e3, e4, e5⟩ := e2
    exact ⟨100000, x, s, exec_le le_lim (Nat.le_refl _) rest6 e3, e4, _, e5, rfl⟩
  obtain ⟨v, h', e, rfl⟩ := key
  obtain ⟨n, e⟩ := lim_iff.1 e
  exact ⟨n, h', e⟩
end Go.AM
