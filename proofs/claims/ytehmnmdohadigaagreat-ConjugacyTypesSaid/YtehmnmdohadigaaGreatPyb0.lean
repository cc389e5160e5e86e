/- What the code computes: symbolic runs of the functions. No condition. -/
import Derived.Carry
import Derived.Lib.SmallJoins
import Derived.OpenShut
import Derived.ProofKit
import Derived.Test.YtehmnmdohadigaaGreatRows
import Derived.WalkKit
import Derived.Test.YtehmnmdohadigaaGreatPya2
import Derived.Test.YtehmnmdohadigaaGreatPytOfTab
set_option linter.unusedSimpArgs false
set_option maxRecDepth 100000
namespace Go.AM
open Go Go.GT
structure NewPm (h h':AHeap) (v:AV) (p:Pm):Prop where
 at_:PmAt h' v p
 gro:Gro h h'
 new:∃ i cap,v = .slice i 0 p.length cap /\ h.next <= i
def tn (n:Nat) (f:Nat -> Nat):List AV:=tbl n fun j => .int .i64 (f j:Int)
theorem tn_len {n:Nat} {f:Nat -> Nat}:(tn n f).length = n:=tbl_len
theorem tn_congr {n:Nat} {f g:Nat -> Nat} (h:∀ i,i < n -> f i = g i):tn n f = tn n g:=tbl_congr fun i hi => by rw [h i hi]
theorem tn_zero {n:Nat}:repl n [.int .i64 0] = tn n fun _ => 0:=tbl_repl n
theorem tn_pc {n:Nat} {p:Pm} (hl:p.length = n):pc p = tn n (ap p):=tbl_pc hl
theorem stV_tn {h:AHeap} {i k n v:Nat} {f:Nat -> Nat} (g:Nat -> Nat) (hg:h.get i = some (.cells (tn n f) true)) (hk:k < n) (hv:g k = v) (hf:∀ j,j < n -> j ≠ k -> g j = f j):stV 1 (.ptr i k) (.int .i64 (v:Int)) h = some (aundef,h.set i (.cells (tn n g) true)):=by
 rw [stV_tbl hg hk rfl]
 congr 4
 refine tbl_congr fun j hj => ?_
 by_cases e:j = k
 ·subst e; rw [if_pos rfl,hv]
 ·rw [if_neg e,hf j hj e]
theorem NewPm.of {h h':AHeap} {n:Nat} {p:Pm} {i:Nat} (hl:p.length = n) (g:Gro h h') (hi:i < h'.next) (hn:h.next <= i) {f:Nat -> Nat} (hg:h'.get i = some (.cells (tn n f) true)) (hf:∀ j,j < n -> f j = ap p j):NewPm h h' (.slice i 0 n (.exact n)) p:=by
 refine ⟨?_,g,i, .exact n,by rw [hl],hn⟩
 have:pc p = tn n f:=by rw [tn_pc hl]; exact tn_congr fun j hj => (hf j hj).symm
 show SlAt h' _ (pc p)
 rw [this]; exact tab_at hi hg tn_len (Nat.le_refl _)
theorem len_sl {j o len:Nat} {c:ACap} {h:AHeap}:lenV 1 (.slice j o len c) h = some (.int .i64 (len:Int)):=rfl
theorem iaddrS {i n k:Nat} {cap:ACap} {q:IntKind} (h:k < n):iaddrV 1 (.slice i 0 n cap) (.int q (k:Int)) = some (.ptr i k):=by
 rw [iaddrV_ok h,Nat.mul_one,Nat.zero_add]
theorem stV_pm {h : AHeap} {i k n v : Nat} {x : Pm} (px : PV n x) {F : Nat -> Nat} (hg : h.get i = some (.cells (tn n fun j => if ap (inv x) j < k then F j else 0) true)) (hk : k < n) (hv : F (ap x k) = v) :
  stV 1 (.ptr i (ap x k)) (.int .i64 (v:Int)) h = some (aundef,h.set i (.cells (tn n fun j => if ap (inv x) j < k + 1 then F j else 0) true)):=by
 refine stV_tn (v:=v) (fun j => if ap (inv x) j < k + 1 then F j else 0) hg (px.ap_lt hk) (by rw [if_pos (by rw [px.ap_inv hk]; omega)]; exact hv) fun j hj hne => ?_
 by_cases e:ap (inv x) j < k
 ·rw [if_pos e,if_pos (by omega)]
 ·by_cases e2:ap (inv x) j = k
  ·exact absurd (by rw [<- e2,px.ap_ap_inv hj]) hne
  ·rw [if_neg e,if_neg (by omega)]
theorem stV_up {h : AHeap} {i k n v : Nat} {F : Nat -> Nat} (hg : h.get i = some (.cells (tn n fun j => if j < k then F j else 0) true)) (hk : k < n) (hv : F k = v) :
  stV 1 (.ptr i k) (.int .i64 (v:Int)) h = some (aundef,h.set i (.cells (tn n fun j => if j < k + 1 then F j else 0) true)):=by
 refine stV_tn (v:=v) (fun j => if j < k + 1 then F j else 0) hg hk (by rw [if_pos (Nat.lt_succ_self k)]; exact hv) fun j _ hne => ?_
 by_cases e:j < k
 ·rw [if_pos e,if_pos (by omega)]
 ·rw [if_neg e,if_neg (by omega)]
section
variable {I:Oracle} {h:AHeap} {n:Nat} {a b:Pm} {va vb:AV} {f:Nat}
theorem mul_fn (hf:otab.get f = some of178) (hI:∀ a h,I f a h = none) (ha:PmAt h va a) (hb:PmAt h vb b) (pa:PV n a) (pb:PV n b) (hn:n <= 1000):∃ v h',lim otab.get I (.fn f) [va,vb] h = some (v,h') /\ NewPm h h' v (mul a b):=by
 refine lim_walk_ex hf (hI _ _) ?_
 show WK _ _ [] ⟨[va,vb,aundef,aundef,aundef,aundef,aundef],h⟩ _
 dsimp only [of178,Z.t,Z.f,Z.i,Z.q,Z.m,Z.l,Z.b,Z.c,Z.w]
 simp (disch:=omega) only [RSe.down,ha.len,pa.len,mkslV_nat]
 refine WK_loopJ (fun k s => ∃ y3 y4 h',s = ⟨[va,vb, .int .i64 (k:Int),y3,y4, .slice h.next 0 n (.exact n), .int .i64 (n:Int)],h'⟩ /\ Gro h h' /\ h.next < h'.next /\ h'.get h.next = some (.cells (tn n fun j => if j < k then ap (mul a b) j else 0) true)) n
  ⟨_,_,_,rfl,Gro.push _ _,Nat.lt_succ_self _,by rw [AHeap.get_push_same,tn_zero]; rfl⟩ ?_
 rintro k hk _ ⟨y3,y4,h',rfl,g,hlt,hg⟩ next
 by_cases hkn:k < n
 ·have h1:=(ha.gro g).load (k:=k) (by rw [pa.len]; exact hkn)
  have h2:=ha.iaddr (q := .i64) (k:=k) (by rw [pa.len]; exact hkn)
  have h3:=hb.iaddr (q := .i64) (k:=ap a k) (by rw [pb.len]; exact pa.ap_lt hkn)
  have h4:=(hb.gro g).load (k:=ap a k) (by rw [pb.len]; exact pa.ap_lt hkn)
  have h5:=stV_up hg hkn (pa.ap_mul hkn)
  simp (disch:=omega) only [RSe.down,h1,h2,h3,h4,iaddrS,h5]
  exact next hkn _ ⟨_,_,_,rfl,g.set (Nat.le_refl _) _,hlt,by rw [AHeap.get_set_same]⟩
 ·obtain rfl:k = n:=by omega
  simp (disch:=omega) only [RSe.down]
  exact ⟨(fun i hi => by cases hi),_,rfl,NewPm.of (pa.mul pb).len g hlt (Nat.le_refl _) hg fun j hj => if_pos hj⟩
theorem inv_fn (hf:otab.get f = some of179) (hI:∀ a h,I f a h = none) (ha:PmAt h va a) (pa:PV n a) (hn:n <= 1000):∃ v h',lim otab.get I (.fn f) [va] h = some (v,h') /\ NewPm h h' v (inv a):=by
 refine lim_walk_ex hf (hI _ _) ?_
 show WK _ _ [] ⟨[va,aundef,aundef,aundef,aundef],h⟩ _
 dsimp only [of179,Z.t,Z.f,Z.i,Z.q,Z.m,Z.l,Z.b,Z.c,Z.w]
 simp (disch:=omega) only [RSe.down,ha.len,pa.len,mkslV_nat]
 refine WK_loopJ (fun k s => ∃ y2 h',s = ⟨[va, .int .i64 (k:Int),y2, .slice h.next 0 n (.exact n), .int .i64 (n:Int)],h'⟩ /\ Gro h h' /\ h.next < h'.next /\ h'.get h.next = some (.cells (tn n fun j => if ap (inv a) j < k then ap (inv a) j else 0) true)) n
  ⟨_,_,rfl,Gro.push _ _,Nat.lt_succ_self _,by rw [AHeap.get_push_same,tn_zero]; rfl⟩ ?_
 rintro k hk _ ⟨y2,h',rfl,g,hlt,hg⟩ next
 by_cases hkn:k < n
 ·have h1:=(ha.gro g).load (k:=k) (by rw [pa.len]; exact hkn)
  have h2:=ha.iaddr (q := .i64) (k:=k) (by rw [pa.len]; exact hkn)
  have h3:=pa.ap_lt hkn
  have h5:=stV_pm pa hg hkn (pa.ap_inv hkn)
  simp (disch:=omega) only [RSe.down,h1,h2,iaddrS,h5]
  exact next hkn _ ⟨_,_,rfl,g.set (Nat.le_refl _) _,hlt,by rw [AHeap.get_set_same]⟩
 ·obtain rfl:k = n:=by omega
  simp (disch:=omega) only [RSe.down]
  exact ⟨(fun i hi => by cases hi),_,rfl,NewPm.of pa.inv.len g hlt (Nat.le_refl _) hg fun j hj => if_pos (pa.inv.ap_lt hj)⟩
theorem id_fn (hf:otab.get f = some of168) (hI:∀ a h,I f a h = none) (hn:n <= 1000):∃ v h',lim otab.get I (.fn f) [.int .i64 (n:Int)] h = some (v,h') /\ NewPm h h' v (one n):=by
 refine lim_walk_ex hf (hI _ _) ?_
 show WK _ _ [] ⟨[.int .i64 (n:Int),aundef,aundef,aundef],h⟩ _
 dsimp only [of168,Z.t,Z.f,Z.i,Z.q,Z.m,Z.l,Z.b,Z.c,Z.w]
 simp (disch:=omega) only [RSe.down,mkslV_nat,len_sl]
 refine WK_loopJ (fun k s => ∃ y1 h',s = ⟨[.int .i64 (k:Int),y1, .slice h.next 0 n (.exact n), .int .i64 (n:Int)],h'⟩ /\ Gro h h' /\ h.next < h'.next /\ h'.get h.next = some (.cells (tn n fun j => if j < k then j else 0) true)) n
  ⟨_,_,rfl,Gro.push _ _,Nat.lt_succ_self _,by rw [AHeap.get_push_same,tn_zero]; rfl⟩ ?_
 rintro k hk _ ⟨y1,h',rfl,g,hlt,hg⟩ next
 by_cases hkn:k < n
 ·have h5:=stV_up (F:=fun j => j) hg hkn rfl
  simp (disch:=omega) only [RSe.down,iaddrS,h5]
  exact next hkn _ ⟨_,_,rfl,g.set (Nat.le_refl _) _,hlt,by rw [AHeap.get_set_same]⟩
 ·obtain rfl:k = n:=by omega
  simp (disch:=omega) only [RSe.down]
  exact ⟨(fun i hi => by cases hi),_,rfl,NewPm.of (PV.one k).len g hlt (Nat.le_refl _) hg fun j hj => by rw [if_pos hj,ap_one hj]⟩
def cj (a x:Pm):Pm:=mul (mul (inv x) a) x
theorem PV.cj (pa:PV n a) (px:PV n b):PV n (cj a b):=(px.inv.mul pa).mul px
theorem ap_cj (pa:PV n a) (px:PV n b) {i:Nat} (hi:i < n):ap (cj a b) (ap b i) = ap b (ap a i):=by
 unfold AM.cj
 rw [(px.inv.mul pa).ap_mul (px.ap_lt hi),px.inv.ap_mul (px.ap_lt hi),px.ap_inv hi]
theorem conj_fn (hf:otab.get f = some of151) (hI:∀ a h,I f a h = none) (ha:PmAt h va a) (hb:PmAt h vb b) (pa:PV n a) (pb:PV n b) (hn:n <= 1000):∃ v h',lim otab.get I (.fn f) [va,vb] h = some (v,h') /\ NewPm h h' v (cj a b):=by
 refine lim_walk_ex hf (hI _ _) ?_
 show WK _ _ [] ⟨[va,vb,aundef,aundef,aundef,aundef,aundef],h⟩ _
 dsimp only [of151,Z.t,Z.f,Z.i,Z.q,Z.m,Z.l,Z.b,Z.c,Z.w]
 simp (disch:=omega) only [RSe.down,ha.len,pa.len,mkslV_nat]
 refine WK_loopJ (fun k s => ∃ y3 y4 h',s = ⟨[va,vb, .int .i64 (k:Int),y3,y4, .slice h.next 0 n (.exact n), .int .i64 (n:Int)],h'⟩ /\ Gro h h' /\ h.next < h'.next /\ h'.get h.next = some (.cells (tn n fun j => if ap (inv b) j < k then ap (cj a b) j else 0) true)) n
  ⟨_,_,_,rfl,Gro.push _ _,Nat.lt_succ_self _,by rw [AHeap.get_push_same,tn_zero]; rfl⟩ ?_
 rintro k hk _ ⟨y3,y4,h',rfl,g,hlt,hg⟩ next
 by_cases hkn:k < n
 ·have h1:=(ha.gro g).load (k:=k) (by rw [pa.len]; exact hkn)
  have h2:=ha.iaddr (q := .i64) (k:=k) (by rw [pa.len]; exact hkn)
  have h3:=hb.iaddr (q := .i64) (k:=ap a k) (by rw [pb.len]; exact pa.ap_lt hkn)
  have h4:=(hb.gro g).load (k:=ap a k) (by rw [pb.len]; exact pa.ap_lt hkn)
  have h6:=hb.iaddr (q := .i64) (k:=k) (by rw [pb.len]; exact hkn)
  have h7:=(hb.gro g).load (k:=k) (by rw [pb.len]; exact hkn)
  have h8:=pb.ap_lt hkn
  have h5:=stV_pm pb hg hkn (ap_cj pa pb hkn)
  simp (disch:=omega) only [RSe.down,h1,h2,h3,h4,h6,h7,iaddrS,h5]
  exact next hkn _ ⟨_,_,_,rfl,g.set (Nat.le_refl _) _,hlt,by rw [AHeap.get_set_same]⟩
 ·obtain rfl:k = n:=by omega
  simp (disch:=omega) only [RSe.down]
  exact ⟨(fun i hi => by cases hi),_,rfl,NewPm.of (PV.cj pa pb).len g hlt (Nat.le_refl _) hg fun j hj => if_pos (pb.inv.ap_lt hj)⟩
end
section
variable {I:Oracle} (hN:NoI I) {h:AHeap} {n:Nat} {a b:Pm} {va vb:AV}
include hN
theorem bmul (ha:PmAt h va a) (hb:PmAt h vb b) (pa:PV n a) (pb:PV n b) (hn:n <= 1000):∃ v h',lim otab.get I (.fn 178) [va,vb] h = some (v,h') /\ NewPm h h' v (mul a b) :=
 mul_fn rfl (fun _ _ => hN.at _ _ (by decide) (by decide) (by decide)) ha hb pa pb hn
theorem binv (ha:PmAt h va a) (pa:PV n a) (hn:n <= 1000):∃ v h',lim otab.get I (.fn 179) [va] h = some (v,h') /\ NewPm h h' v (inv a) :=
 inv_fn rfl (fun _ _ => hN.at _ _ (by decide) (by decide) (by decide)) ha pa hn
theorem bid (hn:n <= 1000):∃ v h',lim otab.get I (.fn 168) [.int .i64 (n:Int)] h = some (v,h') /\ NewPm h h' v (one n) :=
 id_fn rfl (fun _ _ => hN.at _ _ (by decide) (by decide) (by decide)) hn
end
end Go.AM
namespace Go.AM
open Go Go.GT
def ic (l:List Int):List AV:=l.map (.int .i64)
theorem ic_len {l:List Int}:(ic l).length = l.length:=List.length_map _
theorem ic_get {l:List Int} {i:Nat} {x:Int} (h:l[i]? = some x):(ic l)[i]? = some (.int .i64 x):=by unfold ic; rw [List.getElem?_map,h]; rfl
abbrev IAt (h:AHeap) (v:AV) (l:List Int):Prop:=SlAt h v (ic l)
def zs (p:Pm):List Int:=p.map fun x:Nat => (x:Int)
theorem zs_len {p:Pm}:(zs p).length = p.length:=List.length_map _
theorem pc_ic (p:Pm):pc p = ic (zs p):=by unfold pc ic zs; rw [List.map_map]; rfl
theorem zs_inj {p q:Pm} (h:zs p = zs q):p = q:=pc_inj (by rw [pc_ic,pc_ic,h])
theorem PmAt.ints {h:AHeap} {v:AV} {p:Pm} (s:PmAt h v p):IAt h v (zs p):=by unfold IAt; rw [<- pc_ic]; exact s
theorem IAt.gro {h h':AHeap} {v:AV} {l:List Int} (s:IAt h v l) (g:Gro h h'):IAt h' v l:=SlAt.gro s g
theorem IAt.iaddr {h:AHeap} {v:AV} {l:List Int} (s:IAt h v l) {k:Nat} {q:IntKind} (hk:k < l.length):iaddrV 1 v (.int q (k:Int)) = some (eaddr v k):=SlAt.iaddr s (by rw [ic_len]; exact hk)
theorem IAt.load {h:AHeap} {v:AV} {l:List Int} (s:IAt h v l) {k:Nat} {x:Int} (hk:l[k]? = some x):loadV none (eaddr v k) h = some (.int .i64 x):=SlAt.load s (ic_get hk)
theorem IAt.len {h:AHeap} {v:AV} {l:List Int} (s:IAt h v l) {h':AHeap}:lenV 1 v h' = some (.int .i64 (l.length:Int)):=by rw [SlAt.len s,ic_len]
def LAt {α:Type} (P:AHeap -> AV -> α -> Prop) (h:AHeap) (v:AV) (xs:List α):Prop:=∃ c,SlAt h v c /\ c.length = xs.length /\ ∀ (i:Nat) (a:AV) (x:α),c[i]? = some a -> xs[i]? = some x -> P h a x
theorem LAt.len {α:Type} {P:AHeap -> AV -> α -> Prop} {h:AHeap} {v:AV} {xs:List α} (s:LAt P h v xs) {h':AHeap}:lenV 1 v h' = some (.int .i64 (xs.length:Int)):=by
 obtain ⟨c,h1,h2,_⟩:=s
 rw [h1.len,h2]
theorem LAt.get {α:Type} {P:AHeap -> AV -> α -> Prop} {h:AHeap} {v:AV} {xs:List α} (s:LAt P h v xs) {k:Nat} {x:α} (hk:xs[k]? = some x):(∀ q,iaddrV 1 v (.int q (k:Int)) = some (eaddr v k)) /\ ∃ a,loadV none (eaddr v k) h = some a /\ P h a x:=by
 obtain ⟨c,h1,h2,h3⟩:=s
 have hlt:=(List.getElem?_eq_some_iff.1 hk).1
 have hc:c[k]? = some c[k]:=List.getElem?_eq_getElem (by omega)
 exact ⟨fun q => h1.iaddr (by omega),c[k],h1.load hc,h3 k _ x hc hk⟩
theorem LAt.gro {α:Type} {P:AHeap -> AV -> α -> Prop} (hP:∀ (h h':AHeap) (v:AV) (x:α),P h v x -> Gro h h' -> P h' v x) {h h':AHeap} {v:AV} {xs:List α} (s:LAt P h v xs) (g:Gro h h'):LAt P h' v xs:=by
 obtain ⟨c,h1,h2,h3⟩:=s
 exact ⟨c,h1.gro g,h2,fun i a x hi hx => hP _ _ _ _ (h3 i a x hi hx) g⟩
abbrev PmsAt:AHeap -> AV -> List Pm -> Prop:=LAt PmAt
theorem PmsAt.gro {h h':AHeap} {v:AV} {ps:List Pm} (s:PmsAt h v ps) (g:Gro h h'):PmsAt h' v ps:=LAt.gro (P:=PmAt) (fun _ _ _ _ s g => SlAt.gro s g) s g
theorem list_ext {α:Type} {l l':List α} (hl:l.length = l'.length) (h:∀ i,i < l.length -> l[i]? = l'[i]?):l = l':=List.ext_getElem? fun i => by
 by_cases hi:i < l.length
 ·exact h i hi
 ·rw [List.getElem?_eq_none (by omega),List.getElem?_eq_none (by omega)]
theorem get_some {α:Type} {l:List α} {i:Nat} (h:i < l.length):∃ x,l[i]? = some x:=⟨l[i],List.getElem?_eq_getElem h⟩
theorem lex_diff_at:∀ {a b:Pm} {k:Nat},k < a.length -> k < b.length -> (∀ i,i < k -> ap a i = ap b i) -> ap a k < ap b k -> lex a b = true
 | [],_,k,hk,_,_,_ => by simp at hk
 | _ :: _, [],_,_,hl,_,_ => by simp at hl
 | x :: a,y :: b,0,_,_,_,h => by
  have h':x < y:=h
  simp [lex,h']
 | x :: a,y :: b,k + 1,ha,hb,he,h => by
  have e:x = y:=he 0 (by omega)
  subst e
  simp only [lex,decide_true,Bool.true_and,Bool.or_eq_true]
  exact .inr (lex_diff_at (k:=k) (by simpa using ha) (by simpa using hb) (fun i hi => he (i + 1) (by omega)) h)
theorem lex_begin:∀ {a b:Pm},a.length < b.length -> (∀ i,i < a.length -> ap a i = ap b i) -> lex a b = true
 | [], [],h,_ => by simp at h
 | [],_ :: _,_,_ => rfl
 | _ :: _, [],h,_ => by simp at h
 | x :: a,y :: b,h,he => by
  have e:x = y:=he 0 (by simp)
  subst e
  simp only [lex,decide_true,Bool.true_and,Bool.or_eq_true]
  exact .inr (lex_begin (by simpa using h) fun i hi => he (i + 1) (by simpa using hi))
def cmpL (a b:Pm):Int:=if lex a b = true then -1 else if lex b a = true then 1 else 0
theorem cmpL_lt {a b:Pm} (h:lex a b = true):cmpL a b = -1:=if_pos h
theorem cmpL_gt {a b:Pm} (h:lex b a = true):cmpL a b = 1:=by
 unfold cmpL; rw [if_neg (by rw [lex_asymm h]; decide),if_pos h]
theorem cmpL_eq (a:Pm):cmpL a a = 0:=by unfold cmpL; rw [if_neg (by rw [lex_irr]; decide),if_neg (by rw [lex_irr]; decide)]
theorem cmpL_neg {a b:Pm}:cmpL a b < 0 ↔ lex a b = true:=by
 unfold cmpL
 split
 ·rename_i h; simp [h]
 ·rename_i h; split <;> simp [h]
section
variable {I:Oracle} {h:AHeap} {f:Nat} {va vb:AV}
theorem lists_fn (hf : otab.get f = some of26) (hI : ∀ a h, I f a h = none) {α : Type} [DecidableEq α] {P : AHeap -> AV -> α -> Prop} (hs : ∀ a b x y, P h a x -> P h b y -> lim otab.get I (.fn 31) [a, b] h = some (.bool (decide (x = y)), h)) {l m : List α} (ha : LAt P h va l) (hb : LAt P h vb m) (hl : l.length <= 1000000) :
  lim otab.get I (.fn f) [va,vb] h = some (.bool (decide (l = m)),h):=by
 refine lim_walk hf (hI _ _) ?_
 show WK _ _ [] ⟨[va,vb,aundef,aundef,aundef],h⟩ _
 dsimp only [of26,Z.t,Z.f,Z.i,Z.q,Z.m,Z.l,Z.b,Z.c,Z.w]
 by_cases hlm:l.length = m.length
 ·simp (disch:=omega) only [RSe.down,ha.len,hb.len]
  refine WK_loopJ (fun k s => (∃ y3 y4,s = ⟨[va,vb, .int .i64 (k:Int),y3,y4],h⟩) /\ ∀ j,j < k -> l[j]? = m[j]?) l.length ⟨⟨_,_,rfl⟩,fun j hj => absurd hj (Nat.not_lt_zero _)⟩ ?_
  rintro k hk _ ⟨⟨y3,y4,rfl⟩,he⟩ next
  by_cases hkn:k < l.length
  ·obtain ⟨x,hx⟩:=get_some hkn
   obtain ⟨y,hy⟩:=get_some (show k < m.length by omega)
   obtain ⟨i1,a1,l1,p1⟩:=ha.get hx
   obtain ⟨i2,a2,l2,p2⟩:=hb.get hy
   have hc:=hs _ _ _ _ p1 p2
   by_cases e:x = y
   ·rw [decide_eq_true e] at hc
    simp (disch:=omega) only [RSe.down,ha.len,i1,i2,l1,l2,hc,not_bool,Bool.not_true]
    refine next hkn _ ⟨⟨_,_,rfl⟩,fun j hj => ?_⟩
    by_cases ej:j = k
    ·rw [ej,hx,hy,e]
    ·exact he j (by omega)
   ·rw [decide_eq_false e] at hc
    simp (disch:=omega) only [RSe.down,ha.len,i1,i2,l1,l2,hc,not_bool,Bool.not_false]
    refine ⟨(fun i hi => by cases hi),?_,trivial⟩
    rw [decide_eq_false (fun h => e (by rw [h] at hx; rw [hx] at hy; cases hy; rfl))]; rfl
  ·simp (disch:=omega) only [RSe.down,ha.len]
   refine ⟨(fun i hi => by cases hi),?_,trivial⟩
   rw [decide_eq_true (list_ext hlm fun i hi => he i (by omega))]; rfl
 ·simp (disch:=omega) only [RSe.down,ha.len,hb.len]
  refine ⟨(fun i hi => by cases hi),?_,trivial⟩
  rw [decide_eq_false (fun h => hlm (by rw [h]))]; rfl
theorem compare_fn (hf : otab.get f = some of198) (hI : ∀ a h, I f a h = none) (hcmp : ∀ x y : Int, lim otab.get I (.fn 218) [.int .i64 x, .int .i64 y] h = some (.int .i64 (if x < y then -1 else if y < x then 1 else 0), h)) {a b : Pm} (ha : PmAt h va a) (hb : PmAt h vb b) (hn : a.length <= 1000000) :
  lim otab.get I (.fn f) [va,vb] h = some (.int .i64 (cmpL a b),h):=by
 refine lim_walk hf (hI _ _) ?_
 show WK _ _ [] ⟨[va,vb,aundef,aundef,aundef,aundef],h⟩ _
 dsimp only [of198,Z.t,Z.f,Z.i,Z.q,Z.m,Z.l,Z.b,Z.c,Z.w]
 simp (disch:=omega) only [RSe.down,ha.len]
 refine WK_loopJ (fun k s => (∃ y3 y4,s = ⟨[va,vb, .int .i64 (k:Int),y3,y4, .int .i64 (a.length:Int)],h⟩) /\ k <= b.length /\ ∀ j,j < k -> ap a j = ap b j) a.length ⟨⟨_,_,rfl⟩,Nat.zero_le _,fun j hj => absurd hj (Nat.not_lt_zero _)⟩ ?_
 rintro k hk _ ⟨⟨y3,y4,rfl⟩,hkb,he⟩ next
 by_cases hkn:k < a.length
 ·have i1:=ha.iaddr (q := .i64) hkn
  have l1:=ha.load hkn
  by_cases hkm:k < b.length
  ·have i2:=hb.iaddr (q := .i64) hkm
   have l2:=hb.load hkm
   by_cases e1:ap a k < ap b k
   ·have e:(if (ap a k:Int) < (ap b k:Int) then (-1:Int) else if (ap b k:Int) < (ap a k:Int) then 1 else 0) = -1:=if_pos (by omega)
    simp (disch:=omega) only [RSe.down,hb.len,i1,i2,l1,l2,hcmp,e]
    refine ⟨(fun i hi => by cases hi),?_,trivial⟩
    rw [cmpL_lt (lex_diff_at hkn hkm he e1)]; rfl
   ·by_cases e2:ap b k < ap a k
    ·have e:(if (ap a k:Int) < (ap b k:Int) then (-1:Int) else if (ap b k:Int) < (ap a k:Int) then 1 else 0) = 1:=by rw [if_neg (by omega),if_pos (by omega)]
     simp (disch:=omega) only [RSe.down,hb.len,i1,i2,l1,l2,hcmp,e]
     refine ⟨(fun i hi => by cases hi),?_,trivial⟩
     rw [cmpL_gt (lex_diff_at hkm hkn (fun i hi => (he i hi).symm) e2)]; rfl
    ·have e:(if (ap a k:Int) < (ap b k:Int) then (-1:Int) else if (ap b k:Int) < (ap a k:Int) then 1 else 0) = 0:=by rw [if_neg (by omega),if_neg (by omega)]
     simp (disch:=omega) only [RSe.down,hb.len,i1,i2,l1,l2,hcmp,e]
     refine next hkn _ ⟨⟨_,_,rfl⟩,hkm,fun j hj => ?_⟩
     by_cases ej:j = k
     ·rw [ej]; omega
     ·exact he j (by omega)
  ·simp (disch:=omega) only [RSe.down,hb.len,i1,l1]
   refine ⟨(fun i hi => by cases hi),?_,trivial⟩
   rw [cmpL_gt (lex_begin (by omega) fun i hi => (he i (by omega)).symm)]; rfl
 ·obtain rfl:k = a.length:=by omega
  by_cases hab:a.length < b.length
  ·simp (disch:=omega) only [RSe.down,ha.len,hb.len]
   refine ⟨(fun i hi => by cases hi),?_,trivial⟩
   rw [cmpL_lt (lex_begin hab he)]; rfl
  ·simp (disch:=omega) only [RSe.down,ha.len,hb.len]
   refine ⟨(fun i hi => by cases hi),?_,trivial⟩
   rw [GT.ext (show a.length = b.length by omega) he,cmpL_eq]; rfl
theorem pc_scalar (p:Pm):(pc p).all AV.scalar = true:=by rw [List.all_eq_true]; intro x hx; obtain ⟨y,_,rfl⟩:=List.mem_map.1 hx; rfl
theorem clone_own (hf:otab.get f = some of228) (hI:∀ a h,I f a h = none) {p:Pm} (ha:PmAt h va p) (hn:p.length <= 1000000):∃ v h',lim otab.get I (.fn f) [va] h = some (v,h') /\ PmAt h' v p /\ Gro h h' /\ (p ≠ [] -> ∃ i cap,v = .slice i 0 p.length cap /\ h.next <= i /\ i < h'.next /\ h'.get i = some (.cells (pc p) true) /\ capOK 1 p.length cap):=by
 refine lim_walk_ex hf (hI _ _) ?_
 show WK _ _ [] ⟨[va,aundef],h⟩ _
 dsimp only [of228,Z.t,Z.f,Z.i,Z.q,Z.m,Z.l,Z.b,Z.c,Z.w]
 cases va with
 | nils =>
  simp only [RSe.down]
  refine ⟨(fun i hi => by cases hi),_,rfl,ha,Gro.refl _,fun hp => ?_⟩
  rcases ha with ⟨_,e⟩ | ⟨_,_,_,_,e,_⟩
  ·exact absurd (List.map_eq_nil_iff.1 e) hp
  ·cases e
 | slice j o m cp =>
  have e:∀ {tm:List AV},evalA (.bslice 0 1 [] []) tm h = some (.cells [] true, .slice h.next 0 0 (.exact 0)):=fun {tm} => rfl
  have hg:=ha.gro (Gro.push h (.cells [] true))
  have hs0:Own 1 (h.push (.cells [] true)) (.slice h.next 0 0 (.exact 0)) 0 [] := .inr ⟨h.next, .exact 0,rfl, .inr rfl,by simp,Nat.lt_succ_self _,AHeap.get_push_same h _⟩
  by_cases hp:p.length = 0
  ·have hN:SlN 1 (h.push (.cells [] true)) (.slice j o m cp) 0 (pc p):=by have:=hg.toN; rw [pc_len,hp] at this; exact this
   obtain ⟨b',h',k1,k2,k3⟩:=hs0.app0 (bytes:=8) hN (by omega)
   simp only [RSe.down,e,k1]
   have hp0:p = []:=List.eq_nil_of_length_eq_zero hp
   subst hp0
   exact ⟨(fun i hi => by cases hi),_,rfl,k2.at,(Gro.push h _).chg_new k3 (fun i hi => by cases hi; exact Nat.le_refl _),fun h => absurd rfl h⟩
  ·obtain ⟨b',h',k1,k2,k3,k4,k5⟩:=hs0.app (bytes:=8) hg.toN (pc_scalar p) (by rw [pc_len]; exact hp) (by decide) (by rw [pc_len]; omega)
   simp only [RSe.down,e,k1]
   rw [List.nil_append] at k2
   refine ⟨(fun i hi => by cases hi),_,rfl,k2.at,(Gro.push h _).chg_new k3 (fun i hi => by cases hi; exact Nat.le_refl _),fun _ => ?_⟩
   have kat:=k2.at
   rcases k2 with ⟨_,e2,_⟩ | ⟨i',cap,e2,e3,e4,e5,e6⟩
   ·rw [pc_len] at e2; omega
   ·refine ⟨i',cap,by rw [e2,pc_len,Nat.zero_add]; rfl,?_,e5,e6,?_⟩
    ·rw [e2] at k4; cases k4; exact Nat.le_succ _
    ·rcases e3 with rfl | rfl
     ·rfl
     ·show p.length <= _; rw [pc_len]; omega
 | _ => rcases ha with ⟨e,_⟩ | ⟨_,_,_,_,e,_⟩ <;> cases e
theorem clone_fn (hf:otab.get f = some of228) (hI:∀ a h,I f a h = none) {p:Pm} (ha:PmAt h va p) (hn:p.length <= 1000000):∃ v h',lim otab.get I (.fn f) [va] h = some (v,h') /\ PmAt h' v p /\ Gro h h' /\ (p ≠ [] -> ∃ i cap,v = .slice i 0 p.length cap /\ h.next <= i):=by
 obtain ⟨v,h',h1,h2,h3,h4⟩:=clone_own hf hI ha hn
 exact ⟨v,h',h1,h2,h3,fun hp => by obtain ⟨i,cap,k1,k2,_⟩:=h4 hp; exact ⟨i,cap,k1,k2⟩⟩
end
end Go.AM
namespace Go.AM
open Go Go.GT
section
variable {I:Oracle} (hN:NoI I) {h:AHeap} {va vb:AV}
include hN
theorem same_ints {l m:List Int} (ha:IAt h va l) (hb:IAt h vb m) (hl:l.length <= 1000000):lim otab.get I (.fn 31) [va,vb] h = some (.bool (decide (l = m)),h):=by
 refine lim_walk (fn:=of31) rfl (hN.at _ _ (by decide) (by decide) (by decide)) ?_
 show WK _ _ [] ⟨[va,vb,aundef,aundef,aundef],h⟩ _
 dsimp only [of31,Z.t,Z.f,Z.i,Z.q,Z.m,Z.l,Z.b,Z.c,Z.w]
 by_cases hlm:l.length = m.length
 ·simp (disch:=omega) only [RSe.down,ha.len,hb.len]
  refine WK_loopJ (fun k s => (∃ y3 y4,s = ⟨[va,vb, .int .i64 (k:Int),y3,y4],h⟩) /\ ∀ j,j < k -> l[j]? = m[j]?) l.length ⟨⟨_,_,rfl⟩,fun j hj => absurd hj (Nat.not_lt_zero _)⟩ ?_
  rintro k hk _ ⟨⟨y3,y4,rfl⟩,he⟩ next
  by_cases hkn:k < l.length
  ·obtain ⟨x,hx⟩:=get_some hkn
   obtain ⟨y,hy⟩:=get_some (show k < m.length by omega)
   have i1:=ha.iaddr (q := .i64) hkn
   have i2:=hb.iaddr (q := .i64) (show k < m.length by omega)
   have l1:=ha.load hx
   have l2:=hb.load hy
   by_cases e:x = y
   ·simp (disch:=omega) only [RSe.down,ha.len,i1,i2,l1,l2]
    refine next hkn _ ⟨⟨_,_,rfl⟩,fun j hj => ?_⟩
    by_cases ej:j = k
    ·rw [ej,hx,hy,e]
    ·exact he j (by omega)
   ·simp (disch:=omega) only [RSe.down,ha.len,i1,i2,l1,l2]
    refine ⟨(fun i hi => by cases hi),?_,trivial⟩
    rw [decide_eq_false (fun h => e (by rw [h] at hx; rw [hx] at hy; cases hy; rfl))]; rfl
  ·simp (disch:=omega) only [RSe.down,ha.len]
   refine ⟨(fun i hi => by cases hi),?_,trivial⟩
   rw [decide_eq_true (list_ext hlm fun i hi => he i (by omega))]; rfl
 ·simp (disch:=omega) only [RSe.down,ha.len,hb.len]
  refine ⟨(fun i hi => by cases hi),?_,trivial⟩
  rw [decide_eq_false (fun h => hlm (by rw [h]))]; rfl
theorem same_pm {p q:Pm} (ha:PmAt h va p) (hb:PmAt h vb q) (hl:p.length <= 1000000):lim otab.get I (.fn 31) [va,vb] h = some (.bool (decide (p = q)),h):=by
 rw [same_ints hN ha.ints hb.ints (by rw [zs_len]; exact hl)]
 congr 3
 exact decide_eq_decide.2 ⟨zs_inj,fun e => by rw [e]⟩
theorem eq_pm {p q:Pm} (ha:PmAt h va p) (hb:PmAt h vb q) (hl:p.length <= 1000000):lim otab.get I (.fn 150) [va,vb] h = some (.bool (decide (p = q)),h):=by
 refine lim_walk (fn:=of150) rfl (hN.at _ _ (by decide) (by decide) (by decide)) ?_
 show WK _ _ [] ⟨[va,vb,aundef,aundef,aundef,aundef],h⟩ _
 dsimp only [of150,Z.t,Z.f,Z.i,Z.q,Z.m,Z.l,Z.b,Z.c,Z.w]
 by_cases hlm:p.length = q.length
 ·simp (disch:=omega) only [RSe.down,ha.len,hb.len]
  refine WK_loopJ (fun k s => (∃ y3 y4,s = ⟨[va,vb, .int .i64 (k:Int),y3,y4, .int .i64 (p.length:Int)],h⟩) /\ ∀ j,j < k -> ap p j = ap q j) p.length ⟨⟨_,_,rfl⟩,fun j hj => absurd hj (Nat.not_lt_zero _)⟩ ?_
  rintro k hk _ ⟨⟨y3,y4,rfl⟩,he⟩ next
  by_cases hkn:k < p.length
  ·have i1:=ha.iaddr (q := .i64) hkn
   have i2:=hb.iaddr (q := .i64) (show k < q.length by omega)
   have l1:=ha.load hkn
   have l2:=hb.load (show k < q.length by omega)
   by_cases e:ap p k = ap q k
   ·simp (disch:=omega) only [RSe.down,i1,i2,l1,l2]
    refine next hkn _ ⟨⟨_,_,rfl⟩,fun j hj => ?_⟩
    by_cases ej:j = k
    ·rw [ej,e]
    ·exact he j (by omega)
   ·simp (disch:=omega) only [RSe.down,i1,i2,l1,l2]
    refine ⟨(fun i hi => by cases hi),?_,trivial⟩
    rw [decide_eq_false (fun h => e (by rw [h]))]; rfl
  ·obtain rfl:k = p.length:=by omega
   simp (disch:=omega) only [RSe.down]
   refine ⟨(fun i hi => by cases hi),?_,trivial⟩
   rw [decide_eq_true (GT.ext hlm fun i hi => he i (by omega))]; rfl
 ·simp (disch:=omega) only [RSe.down,ha.len,hb.len]
  refine ⟨(fun i hi => by cases hi),?_,trivial⟩
  rw [decide_eq_false (fun h => hlm (by rw [h]))]; rfl
theorem cmp_int (x y:Int):lim otab.get I (.fn 218) [.int .i64 x, .int .i64 y] h = some (.int .i64 (if x < y then -1 else if y < x then 1 else 0),h):=by
 have hnan:∀ z:Int,lim otab.get I (.fn 247) [.int .i64 z] h = some (.bool false,h):=fun z => by
  refine lim_walk (fn:=of247) rfl (hN.at _ _ (by decide) (by decide) (by decide)) ?_
  show WK _ _ [] ⟨[.int .i64 z,aundef],h⟩ _
  dsimp only [of247,Z.t,Z.f,Z.i,Z.q,Z.m,Z.l,Z.b,Z.c,Z.w]
  simp (disch:=omega) only [RSe.down]
  exact ⟨(fun i hi => by cases hi),rfl,trivial⟩
 refine lim_walk (fn:=of218) rfl (hN.at _ _ (by decide) (by decide) (by decide)) ?_
 show WK _ _ [] ⟨[.int .i64 x, .int .i64 y,aundef,aundef],h⟩ _
 dsimp only [of218,Z.t,Z.f,Z.i,Z.q,Z.m,Z.l,Z.b,Z.c,Z.w]
 by_cases h1:x < y
 ·simp (disch:=omega) only [RSe.down,hnan,if_pos h1]
  exact ⟨(fun i hi => by cases hi),rfl,trivial⟩
 ·by_cases h2:y < x
  ·simp (disch:=omega) only [RSe.down,hnan,if_neg h1,if_pos h2]
   exact ⟨(fun i hi => by cases hi),rfl,trivial⟩
  ·simp (disch:=omega) only [RSe.down,hnan,if_neg h1,if_neg h2]
   exact ⟨(fun i hi => by cases hi),rfl,trivial⟩
theorem cmp_perm {p q:Pm} (ha:PmAt h va p) (hb:PmAt h vb q) (hn:p.length <= 1000000):lim otab.get I (.fn 161) [va,vb] h = some (.int .i64 (cmpL p q),h) :=
 compare_fn rfl (fun _ _ => hN.at _ _ (by decide) (by decide) (by decide)) (cmp_int hN) ha hb hn
end
end Go.AM
namespace Go.AM
open Go Go.GT
def Sls (L:List AV):Prop:=∀ x ∈ L, ∀ k n,x ≠ .int k n
theorem PmAt.not_int {h:AHeap} {v:AV} {p:Pm} (s:PmAt h v p):∀ k n,v ≠ .int k n:=fun k n e => by
 subst e; rcases s with ⟨e,_⟩ | ⟨_,_,_,_,e,_⟩ <;> cases e
theorem PmAt.stay {F:Nat -> Prop} {h h':AHeap} {v:AV} {p:Pm} (s:PmAt h v p) (c:Chg F h h') (hF:∀ i,i < h.next -> F i -> ∃ L r,h.get i = some (.cells L r) /\ Sls L):PmAt h' v p:=by
 rcases s with s | ⟨i,o,cap,full,h1,h2,h3,h5⟩
 ·exact .inl s
 ·refine .inr ⟨i,o,cap,full,h1,Nat.lt_of_lt_of_le h2 c.le,fun hp => ?_,h5⟩
  obtain ⟨e1,e2⟩:=h3 hp
  have hn:¬ F i:=fun hf => by
   obtain ⟨L,r,hg,hL⟩:=hF i h2 hf
   rw [cellsOf_get hg] at e1
   cases e1
   have hpos:0 < p.length:=List.length_pos_iff.2 fun e => hp (by rw [e]; rfl)
   obtain ⟨k1,k2,k3⟩:=cut_spec e2
   have h4:=k3 0 (by rw [pc_len]; exact hpos)
   rw [pc_get hpos] at h4
   exact hL _ (List.mem_of_getElem? h4.symm) _ _ rfl
  rw [c.cells h2 hn]; exact ⟨e1,e2⟩
structure PL (h:AHeap) (v:AV) (c:List AV) (ps:List Pm):Prop where
 own:Own 1 h v ps.length c
 len:c.length = ps.length
 el:∀ (i:Nat) (a:AV) (p:Pm),c[i]? = some a -> ps[i]? = some p -> PmAt h a p
section
variable {h h':AHeap} {v:AV} {c:List AV} {ps:List Pm}
theorem PL.pms (s:PL h v c ps):PmsAt h v ps:=⟨c,s.own.at,s.len,s.el⟩
theorem PL.sls (s:PL h v c ps):Sls c:=fun x hx k n e => by
 obtain ⟨i,hi,ei⟩:=List.mem_iff_getElem.1 hx
 obtain ⟨p,hp⟩:=get_some (show i < ps.length by rw [<- s.len]; exact hi)
 exact (s.el i x p (by rw [List.getElem?_eq_getElem hi,ei]) hp).not_int k n e
theorem PL.gro (s:PL h v c ps) (g:Gro h h'):PL h' v c ps:=⟨s.own.gro g,s.len,fun i a p ha hp => (s.el i a p ha hp).gro g⟩
theorem PL.own_sls (s:PL h v c ps):∀ i,i < h.next -> oid v = some i -> ∃ L r,h.get i = some (.cells L r) /\ Sls L:=fun _ _ e => ⟨c,true,s.own.get e,s.sls⟩
theorem PL.nil:PL h .nils [] []:=⟨Own.nil,rfl,fun i a p hi => by simp at hi⟩
theorem PL.one {a:AV} {p:Pm} (ha:PmAt h a p):PL (h.push (.cells [a] true)) (.slice h.next 0 1 (.exact 1)) [a] [p] :=
 ⟨.inr ⟨h.next, .exact 1,rfl, .inr rfl,rfl,Nat.lt_succ_self _,AHeap.get_push_same h _⟩,rfl,fun i b q hb hq => by
  cases i with
  | zero => simp at hb hq; subst hb; subst hq; exact ha.gro (Gro.push h _)
  | succ i => simp at hb⟩
theorem PL.app (s : PL h v c ps) {a : AV} {p : Pm} (ha : PmAt h a p) (hb : ps.length <= 1000000) :
  bslV a h = some (.cells [a] true, .slice h.next 0 1 (.exact 1)) /\
  ∃ b' h',appV 1 24 v (.slice h.next 0 1 (.exact 1)) (h.push (.cells [a] true)) = some (b',h') /\ PL h' b' (c ++ [a]) (ps ++ [p]) /\ Chg (fun j => oid v = some j) h h' /\ oid b' = some (h.next + 1) /\ h'.next = h.next + 2:=by
 refine ⟨bslV_sc ha.scalar,?_⟩
 obtain ⟨b',h',k1,k2,k3,k4,k5⟩:=s.own.app1 (bytes:=24) (c:=[a]) rfl (by simp [ha.scalar]) (by decide) (by omega)
 refine ⟨b',h',k1,⟨by rw [List.length_append]; exact k2,by simp [s.len],fun i b q hb hq => ?_⟩,k3,k4,k5⟩
 by_cases hi:i < ps.length
 ·rw [List.getElem?_append_left (by rw [s.len]; exact hi)] at hb
  rw [List.getElem?_append_left hi] at hq
  exact (s.el i b q hb hq).stay k3 s.own_sls
 ·have hi2 : i = ps.length := by
   have:=(List.getElem?_eq_some_iff.1 hq).1
   simp at this; omega
  subst hi2
  rw [List.getElem?_append_right (by rw [s.len]; exact Nat.le_refl _),s.len] at hb
  rw [List.getElem?_append_right (Nat.le_refl _)] at hq
  simp at hb hq; subst hb; subst hq
  exact ha.stay k3 s.own_sls
end
end Go.AM
namespace Go.AM
open Go Go.GT
def Fits (n:Nat) (S:List Pm) (b:Nat):Prop:=∃ l,IsEl n S l /\ l.length <= b
end Go.AM
namespace Go.AM
open Go Go.GT
def firstE (f:Nat -> Int):Nat -> Int
 | 0 => 0
 | n + 1 => if firstE f n ≠ 0 then firstE f n else f n
theorem firstE_zero {f:Nat -> Int}:∀ {n:Nat},(∀ j,j < n -> f j = 0) -> firstE f n = 0
 | 0,_ => rfl
 | n + 1,h => by
  have e:=firstE_zero (f:=f) (n:=n) fun j hj => h j (by omega)
  show (if firstE f n ≠ 0 then firstE f n else f n) = 0
  rw [e,if_neg (fun h => h rfl),h n (Nat.lt_succ_self n)]
theorem firstE_at {f:Nat -> Int}:∀ {n i:Nat},i < n -> (∀ j,j < i -> f j = 0) -> f i ≠ 0 -> firstE f n = f i
 | 0,i,hi,_,_ => absurd hi (Nat.not_lt_zero _)
 | n + 1,i,hi,h,hn => by
  show (if firstE f n ≠ 0 then firstE f n else f n) = f i
  by_cases e:i = n
  ·subst e; rw [firstE_zero h,if_neg (fun h => h rfl)]
  ·rw [firstE_at (n:=n) (by omega) h hn,if_pos hn]
theorem firstE_eq {f:Nat -> Int}:∀ {n:Nat},firstE f n = 0 -> ∀ j,j < n -> f j = 0
 | 0,_,j,hj => absurd hj (Nat.not_lt_zero _)
 | n + 1,h,j,hj => by
  have h':(if firstE f n ≠ 0 then firstE f n else f n) = 0:=h
  by_cases e:firstE f n = 0
  ·rw [e,if_neg (fun h => h rfl)] at h'
   by_cases ej:j = n
   ·rw [ej]; exact h'
   ·exact firstE_eq e j (by omega)
  ·rw [if_pos e] at h'; exact absurd h' e
def peAt (l:List Int) (i:Nat):Int:=if l.getD i 0 < 0 \/ (l.length:Int) <= l.getD i 0 then 3 else if l.getD i 0 ∈ l.take i then 24 else 0
def permErr (l:List Int):Int:=if 20 < l.length then 4 else firstE (peAt l) l.length
def degErr (d:Int):Int:=if d < 0 then 3 else if 20 < d then 4 else 0
def genErr (d:Int) (l:List Int):Int:=if permErr l ≠ 0 then permErr l else if (l.length:Int) ≠ d then 2 else 0
def groupErr (d:Int) (ls:List (List Int)):Int:=if degErr d ≠ 0 then degErr d else if 32 < ls.length then 5 else firstE (fun i => genErr d (ls.getD i [])) ls.length
theorem getD_some {α:Type} {l:List α} {i:Nat} {x d:α} (h:l[i]? = some x):l.getD i d = x:=by rw [List.getD,h]; rfl
theorem mem_take_iff {l:List Int} {x:Int} {i:Nat}:x ∈ l.take i ↔ ∃ j,j < i /\ l[j]? = some x:=by
 rw [List.mem_iff_getElem?]
 constructor
 ·rintro ⟨j,hj⟩
  by_cases e:j < i
  ·exact ⟨j,e,by rw [List.getElem?_take_of_lt e] at hj; exact hj⟩
  ·rw [List.getElem?_eq_none (by simp; omega)] at hj; cases hj
 ·rintro ⟨j,h1,h2⟩; exact ⟨j,by rw [List.getElem?_take_of_lt h1]; exact h2⟩
theorem perm_of_ok {l:List Int} (h:permErr l = 0):l.length <= 20 /\ ∃ p,PV l.length p /\ l = zs p:=by
 unfold permErr at h
 split at h
 ·cases h
 ·rename_i hl
  have hx:=firstE_eq h
  have h1:∀ (i:Nat) (x:Int),l[i]? = some x -> 0 <= x /\ x < l.length /\ ∀ j,j < i -> l[j]? ≠ some x:=fun i x hi => by
   have e:=hx i (List.getElem?_eq_some_iff.1 hi).1
   unfold peAt at e
   rw [getD_some hi] at e
   split at e
   ·cases e
   ·rename_i hr
    split at e
    ·cases e
    ·rename_i hm
     refine ⟨by omega,by omega,fun j hj he => hm (mem_take_iff.2 ⟨j,hj,he⟩)⟩
  have hz:l = zs (l.map Int.toNat):=by
   unfold zs; rw [List.map_map]
   refine List.ext_getElem? fun i => ?_
   rw [List.getElem?_map]
   cases e:l[i]? with
   | none => rfl
   | some x =>
    show some x = some ((x.toNat:Nat):Int)
    rw [Int.toNat_of_nonneg (h1 i x e).1]
  have ap_eq:∀ (i:Nat) (x:Int),l[i]? = some x -> ap (l.map Int.toNat) i = x.toNat:=fun i x hi => ap_get? (by rw [List.getElem?_map,hi]; rfl)
  refine ⟨by omega,l.map Int.toNat,PV.mk' (by simp) (fun i hi => ?_) fun i j hi hj e => ?_,hz⟩
  ·obtain ⟨x,hx⟩:=get_some hi
   rw [ap_eq i x hx]; have:=h1 i x hx; omega
  ·obtain ⟨x,hx⟩:=get_some hi
   obtain ⟨y,hy⟩:=get_some hj
   rw [ap_eq i x hx,ap_eq j y hy] at e
   have a1:=h1 i x hx; have a2:=h1 j y hy
   have exy:x = y:=by omega
   subst exy
   rcases Nat.lt_trichotomy i j with q | q | q
   ·exact absurd hx (a2.2.2 i q)
   ·exact q
   ·exact absurd hy (a1.2.2 j q)
theorem ok_of_perm {n:Nat} {p:Pm} (h:PV n p) (hn:n <= 20):permErr (zs p) = 0:=by
 unfold permErr
 rw [if_neg (by rw [zs_len,h.len]; omega)]
 refine firstE_zero fun i hi => ?_
 rw [zs_len,h.len] at hi
 have hz:∀ j,j < n -> (zs p)[j]? = some (ap p j:Int):=fun j hj => by unfold zs; rw [List.getElem?_map,get?_ap (by rw [h.len]; exact hj)]; rfl
 unfold peAt
 rw [getD_some (hz i hi),zs_len,h.len]
 have:=h.ap_lt hi
 rw [if_neg (by omega),if_neg]
 rw [mem_take_iff]
 rintro ⟨j,hj,e⟩
 rw [hz j (by omega)] at e
 have e':(ap p j:Int) = (ap p i:Int):=Option.some.inj e
 have:=h.inj (by omega) hi (by omega:ap p j = ap p i)
 omega
abbrev LsAt:AHeap -> AV -> List (List Int) -> Prop:=LAt IAt
theorem LsAt.gro {h h':AHeap} {v:AV} {ls:List (List Int)} (s:LsAt h v ls) (g:Gro h h'):LsAt h' v ls:=LAt.gro (P:=IAt) (fun _ _ _ _ s g => SlAt.gro s g) s g
def gS (ls:List (List Int)):List Pm:=ls.map fun l => l.map Int.toNat
theorem zs_ns {p:Pm}:(zs p).map Int.toNat = p:=by
 unfold zs; rw [List.map_map]
 exact List.map_id'' (fun _ => rfl) p
theorem group_of_ok {d:Int} {ls:List (List Int)} (h:groupErr d ls = 0):∃ n:Nat,d = (n:Int) ∧ n ≤ 20 ∧ ls.length ≤ 32 ∧ ls = (gS ls).map zs ∧ ∀ s ∈ gS ls,PV n s:=by
  unfold groupErr at h
  split at h
  · rename_i hd; exact absurd h hd
  · rename_i hd
    have hd':degErr d = 0:=Decidable.byContradiction hd
    split at h
    · cases h
    · rename_i hl
      have hb:0 ≤ d ∧ d ≤ 20:=by
        unfold degErr at hd'
        split at hd'
        · cases hd'
        · split at hd'
          · cases hd'
          · omega
      have hx:=firstE_eq h
      have h1:∀ l ∈ ls,permErr l = 0 ∧ (l.length:Int) = d:=fun l hl => by
        obtain ⟨i,hi,ei⟩:=List.mem_iff_getElem.1 hl
        have e:genErr d (ls.getD i []) = 0:=hx i hi
        rw [getD_some (by rw [List.getElem?_eq_getElem hi,ei])] at e
        unfold genErr at e
        split at e
        · rename_i hp; exact absurd e hp
        · rename_i hp
          split at e
          · cases e
          · rename_i hq; exact ⟨Decidable.byContradiction hp,Decidable.byContradiction hq⟩
      have h2:∀ l ∈ ls, ∃ p,PV d.toNat p ∧ l = zs p:=fun l hl => by
        obtain ⟨a,b⟩:=h1 l hl
        obtain ⟨_,p,c1,c2⟩:=perm_of_ok a
        exact ⟨p, by have : l.length = d.toNat := by omega
                     rwa [this] at c1,c2⟩
      refine ⟨d.toNat,by omega,by omega,by omega,?_,fun s hs => ?_⟩
      · unfold gS; rw [List.map_map]
        refine (List.map_id'' (f:=_) (fun _ => rfl) ls).symm.trans (List.map_congr_left fun l hl => ?_)
        obtain ⟨p,_,e⟩:=h2 l hl
        show l = zs (l.map Int.toNat)
        rw [e,zs_ns]
      · obtain ⟨l,hl,rfl⟩:=List.mem_map.1 hs
        obtain ⟨p,hp,e⟩:=h2 l hl
        rw [e,zs_ns]; exact hp
theorem LsAt.pms {h:AHeap} {v:AV} {ls:List (List Int)} (s:LsAt h v ls) (e:ls = (gS ls).map zs):PmsAt h v (gS ls):=by
 obtain ⟨c,h1,h2,h3⟩:=s
 refine ⟨c,h1,by rw [h2]; unfold gS; rw [List.length_map],fun i a p ha hp => ?_⟩
 have:ls[i]? = some (zs p):=by rw [e,List.getElem?_map,hp]; rfl
 have:=h3 i a _ ha this
 show SlAt h a (pc p)
 rw [pc_ic]; exact this
section
variable {I:Oracle} (hN:NoI I) {h:AHeap}
include hN
theorem rcheck {v:AV} {l:List Int} (hv:IAt h v l):lim otab.get I (.fn 133) [v] h = some (.int .i64 (permErr l),h):=by
 refine lim_walk (fn:=of133) rfl (hN.at _ _ (by decide) (by decide) (by decide)) ?_
 show WK _ _ [] ⟨[v,aundef,aundef,aundef,aundef],h⟩ _
 dsimp only [of133,Z.t,Z.f,Z.i,Z.q,Z.m,Z.l,Z.b,Z.c,Z.w]
 by_cases hl:20 < l.length
 ·simp (disch:=omega) only [RSe.down,hv.len]
  refine ⟨(fun i hi => by cases hi),?_,trivial⟩
  unfold permErr; rw [if_pos hl]; rfl
 ·simp (disch:=omega) only [RSe.down,hv.len]
  have hpe:permErr l = firstE (peAt l) l.length:=if_neg hl
  refine WK_loopJ (fun k s => (∃ y1 y3 y4,s = ⟨[v,y1, .int .i64 (k:Int),y3,y4],h⟩) /\ ∀ j,j < k -> peAt l j = 0) l.length ⟨⟨_,_,_,rfl⟩,fun j hj => absurd hj (Nat.not_lt_zero _)⟩ ?_
  rintro k hk _ ⟨⟨y1,y3,y4,rfl⟩,he⟩ next
  by_cases hkn:k < l.length
  ·obtain ⟨x,hx⟩:=get_some hkn
   have i1:=hv.iaddr (q := .i64) hkn
   have l1:=hv.load hx
   have hgd:=getD_some (d:=0) hx
   by_cases e1:x < 0
   ·simp (disch:=omega) only [RSe.down,hv.len,i1,l1]
    refine ⟨(fun i hi => by cases hi),?_,trivial⟩
    have:peAt l k = 3:=by unfold peAt; rw [hgd,if_pos (.inl e1)]
    rw [hpe,firstE_at hkn he (by rw [this]; decide),this]; rfl
   ·by_cases e2:(l.length:Int) <= x
    ·simp (disch:=omega) only [RSe.down,hv.len,i1,l1]
     refine ⟨(fun i hi => by cases hi),?_,trivial⟩
     have:peAt l k = 3:=by unfold peAt; rw [hgd,if_pos (.inr e2)]
     rw [hpe,firstE_at hkn he (by rw [this]; decide),this]; rfl
    ·simp (disch:=omega) only [RSe.down,hv.len,i1,l1]
     refine WK_loopJ (fun r s => (∃ y3 y4,s = ⟨[v, .int .i64 (r:Int), .int .i64 (k:Int),y3,y4],h⟩) /\ ∀ j,j < r -> l[j]? ≠ some x) k ⟨⟨_,_,rfl⟩,fun j hj => absurd hj (Nat.not_lt_zero _)⟩ ?_
     rintro r hr _ ⟨⟨y3,y4,rfl⟩,hne⟩ next2
     by_cases hrn:r < k
     ·obtain ⟨z,hz⟩:=get_some (show r < l.length by omega)
      have i2:=hv.iaddr (q := .i64) (show r < l.length by omega)
      have l2:=hv.load hz
      by_cases e3:z = x
      ·simp (disch:=omega) only [RSe.down,i1,l1,i2,l2]
       refine ⟨(fun i hi => by cases hi),?_,trivial⟩
       have:peAt l k = 24:=by unfold peAt; rw [hgd,if_neg (by omega),if_pos (mem_take_iff.2 ⟨r,hrn,by rw [hz,e3]⟩)]
       rw [hpe,firstE_at hkn he (by rw [this]; decide),this]; rfl
      ·simp (disch:=omega) only [RSe.down,i1,l1,i2,l2]
       refine next2 hrn _ ⟨⟨_,_,rfl⟩,fun j hj => ?_⟩
       by_cases ej:j = r
       ·rw [ej,hz]; exact fun h => e3 (Option.some.inj h)
       ·exact hne j (by omega)
     ·obtain rfl:r = k:=by omega
      simp (disch:=omega) only [RSe.down]
      refine next hkn _ ⟨⟨_,_,_,rfl⟩,fun j hj => ?_⟩
      by_cases ej:j = r
      ·unfold peAt
       rw [ej,hgd,if_neg (by omega),if_neg]
       rw [mem_take_iff]
       rintro ⟨q,hq1,hq2⟩
       exact hne q hq1 hq2
      ·exact he j (by omega)
  ·obtain rfl:k = l.length:=by omega
   simp (disch:=omega) only [RSe.down,hv.len]
   refine ⟨(fun i hi => by cases hi),?_,trivial⟩
   rw [hpe,firstE_zero he]; rfl
theorem index_spec {v:AV} {l:List Int} {x:Int} (hv:IAt h v l) (hl:l.length <= 1000000):∃ r:Int,lim otab.get I (.fn 248) [v, .int .i64 x] h = some (.int .i64 r,h) /\ (0 <= r ↔ x ∈ l):=by
 have key:=lim_walk_ex (T:=otab.get) (I:=I) (f:=248) (fn:=of248) rfl (a:=[v, .int .i64 x]) (h:=h) (P:=fun a h' => h' = h /\ ∃ r:Int,a = .int .i64 r /\ (0 <= r ↔ x ∈ l)) (hN.at _ _ (by decide) (by decide) (by decide)) ?_
 ·obtain ⟨a,h',e,rfl,r,rfl,hr⟩:=key
  exact ⟨r,e,hr⟩
 show WK _ _ [] ⟨[v, .int .i64 x,aundef,aundef,aundef],h⟩ _
 dsimp only [of248,Z.t,Z.f,Z.i,Z.q,Z.m,Z.l,Z.b,Z.c,Z.w]
 simp (disch:=omega) only [RSe.down,hv.len]
 refine WK_loopJ (fun k s => (∃ y3,s = ⟨[v, .int .i64 x, .int .i64 (k:Int),y3, .int .i64 (l.length:Int)],h⟩) /\ ∀ j,j < k -> l[j]? ≠ some x) l.length ⟨⟨_,rfl⟩,fun j hj => absurd hj (Nat.not_lt_zero _)⟩ ?_
 rintro k hk _ ⟨⟨y3,rfl⟩,he⟩ next
 by_cases hkn:k < l.length
 ·obtain ⟨z,hz⟩:=get_some hkn
  have i1:=hv.iaddr (q := .i64) hkn
  have l1:=hv.load hz
  by_cases e:x = z
  ·simp (disch:=omega) only [RSe.down,i1,l1]
   exact ⟨(fun i hi => by cases hi),_,rfl,trivial,_,rfl,⟨fun _ => by rw [e]; exact List.mem_of_getElem? hz,fun _ => by omega⟩⟩
  ·simp (disch:=omega) only [RSe.down,i1,l1]
   refine next hkn _ ⟨⟨_,rfl⟩,fun j hj => ?_⟩
   by_cases ej:j = k
   ·rw [ej,hz]; exact fun h => e (Option.some.inj h).symm
   ·exact he j (by omega)
 ·obtain rfl:k = l.length:=by omega
  simp (disch:=omega) only [RSe.down]
  refine ⟨(fun i hi => by cases hi),_,rfl,trivial,_,rfl,⟨fun h => absurd h (by decide),fun hx => ?_⟩⟩
  obtain ⟨j,hj,ej⟩:=List.mem_iff_getElem.1 hx
  exact absurd (by rw [List.getElem?_eq_getElem hj,ej]) (he j hj)
theorem contains_spec {v:AV} {l:List Int} {x:Int} (hv:IAt h v l) (hl:l.length <= 1000000):lim otab.get I (.fn 221) [v, .int .i64 x] h = some (.bool (decide (x ∈ l)),h):=by
 obtain ⟨r,e,hr⟩:=index_spec hN hv hl (x:=x)
 refine lim_walk (fn:=of221) rfl (hN.at _ _ (by decide) (by decide) (by decide)) ?_
 show WK _ _ [] ⟨[v, .int .i64 x,aundef],h⟩ _
 dsimp only [of221,Z.t,Z.f,Z.i,Z.q,Z.m,Z.l,Z.b,Z.c,Z.w]
 simp only [RSe.down,e,geq_int]
 refine ⟨(fun i hi => by cases hi),?_,trivial⟩
 rw [<- decide_eq_decide.2 hr]; rfl
end
end Go.AM
namespace Go.AM
open Go Go.GT
theorem SlAt.take {h:AHeap} {v:AV} {c:List AV} (s:SlAt h v c) {k:Nat} (hk:k <= c.length):∃ v',sl 1 v none (some (k:Int)) none = some v' /\ SlAt h v' (c.take k):=by
 rcases s with ⟨rfl,rfl⟩ | ⟨i,o,cap,full,rfl,h2,h3,h5⟩
 ·have:k = 0:=by simpa using hk
  subst this
  exact ⟨.nils,rfl, .inl ⟨rfl,rfl⟩⟩
 ·have hl:(c.take k).length = k:=by simp; omega
  have hcut:c.take k ≠ [] -> cellsOf h i = some full /\ cut full o k = some (c.take k):=fun hne => by
   have hc:c ≠ []:=fun e => hne (by rw [e]; simp)
   obtain ⟨e1,e2⟩:=h3 hc
   obtain ⟨q1,q2⟩:=cut_eq e2
   refine ⟨e1,?_⟩
   rw [cut_some (by omega)]
   conv => rhs; rw [q2]
   rw [List.take_take,Nat.min_eq_left hk]
  cases cap with
  | exact m =>
   have h5':c.length <= m:=h5
   have hb:bounds c.length m none (some (k:Int)) none = some (0,k,m):=by
    unfold bounds
    simp only [Int.toNat_natCast]
    rw [if_pos ⟨by omega,by omega⟩]
   refine ⟨.slice i o k (.exact m),?_, .inr ⟨i,o, .exact m,full,by rw [hl],h2,fun hne => by rw [hl]; exact hcut hne,by rw [hl]; exact Nat.le_trans hk h5'⟩⟩
   show (match bounds c.length m none (some (k:Int)) none with | some (l,h,m) => some (AV.slice i (if m = l then o else o + l * 1) (h - l) (.exact (m - l))) | none => none) = _
   rw [hb]
   show some (AV.slice i (if m = 0 then o else o + 0 * 1) (k - 0) (.exact (m - 0))) = _
   have:(if m = 0 then o else o + 0 * 1) = o:=by split <;> omega
   rw [this]; rfl
  | opn sz =>
   have h5':sz = 1:=h5
   subst h5'
   have hb:bounds c.length c.length none (some (k:Int)) none = some (0,k,c.length):=by
    unfold bounds
    simp only [Int.toNat_natCast]
    rw [if_pos ⟨by omega,by omega⟩]
   refine ⟨.slice i o k (.opn 1),?_, .inr ⟨i,o, .opn 1,full,by rw [hl],h2,fun hne => by rw [hl]; exact hcut hne,rfl⟩⟩
   show (if 1 = 1 then (match bounds c.length c.length none (some (k:Int)) none with | some (l,h,_) => some (AV.slice i (o + l * 1) (h - l) (.opn 1)) | none => none) else none) = _
   rw [if_pos rfl,hb]; rfl
theorem IAt.take {h:AHeap} {v:AV} {l:List Int} (s:IAt h v l) {k:Nat} (hk:k <= l.length):∃ v',sl 1 v none (some (k:Int)) none = some v' /\ IAt h v' (l.take k):=by
 obtain ⟨v',h1,h2⟩:=SlAt.take s (k:=k) (by rw [ic_len]; exact hk)
 exact ⟨v',h1,by unfold ic at h2; rw [<- List.map_take] at h2; exact h2⟩
theorem evalQ_sliceV {sz:Nat} {x:AOpd} {lo hi mx:Option AOpd} {tm:List AV} {h:AHeap}:evalQ (.slice sz x lo hi mx) tm h = (match optInt tm lo,optInt tm hi,optInt tm mx with | some l,some h,some m => sl sz (ev tm x) l h m | _,_,_ => none):=rfl
theorem evalQ_sliceHi {sz:Nat} {x:AOpd} {hi:AOpd} {tm:List AV} {h:AHeap} {k:IntKind} {n:Int} (e:ev tm hi = .int k n):evalQ (.slice sz x none (some hi) none) tm h = sl sz (ev tm x) none (some n) none:=by
 have:optInt tm (some hi) = some (some n):=by
  show (match ev tm hi with | .int _ n => some (some n) | _ => none) = _
  rw [e]
 rw [evalQ_sliceV,this]; rfl
section
variable {I:Oracle} (hN:NoI I) {h:AHeap}
include hN
theorem pcheck {v:AV} {l:List Int} (hv:IAt h v l):lim otab.get I (.fn 169) [v] h = some (.int .i64 (permErr l),h):=by
 refine lim_walk (fn:=of169) rfl (hN.at _ _ (by decide) (by decide) (by decide)) ?_
 show WK _ _ [] ⟨[v,aundef,aundef,aundef,aundef,aundef,aundef],h⟩ _
 dsimp only [of169,Z.t,Z.f,Z.i,Z.q,Z.m,Z.l,Z.b,Z.c,Z.w]
 by_cases hl:20 < l.length
 ·simp (disch:=omega) only [RSe.down,hv.len]
  refine ⟨(fun i hi => by cases hi),?_,trivial⟩
  unfold permErr; rw [if_pos hl]; rfl
 ·simp (disch:=omega) only [RSe.down,hv.len]
  have hpe:permErr l = firstE (peAt l) l.length:=if_neg hl
  refine WK_loopJ (fun k s => (∃ y1 y3 y4 y5,s = ⟨[v,y1, .int .i64 (k:Int),y3,y4,y5, .int .i64 (l.length:Int)],h⟩) /\ ∀ j,j < k -> peAt l j = 0) l.length ⟨⟨_,_,_,_,rfl⟩,fun j hj => absurd hj (Nat.not_lt_zero _)⟩ ?_
  rintro k hk _ ⟨⟨y1,y3,y4,y5,rfl⟩,he⟩ next
  by_cases hkn:k < l.length
  ·obtain ⟨x,hx⟩:=get_some hkn
   have i1:=hv.iaddr (q := .i64) hkn
   have l1:=hv.load hx
   have hgd:=getD_some (d:=0) hx
   by_cases e1:x < 0
   ·simp (disch:=omega) only [RSe.down,hv.len,i1,l1]
    refine ⟨(fun i hi => by cases hi),?_,trivial⟩
    have:peAt l k = 3:=by unfold peAt; rw [hgd,if_pos (.inl e1)]
    rw [hpe,firstE_at hkn he (by rw [this]; decide),this]; rfl
   ·by_cases e2:(l.length:Int) <= x
    ·simp (disch:=omega) only [RSe.down,hv.len,i1,l1]
     refine ⟨(fun i hi => by cases hi),?_,trivial⟩
     have:peAt l k = 3:=by unfold peAt; rw [hgd,if_pos (.inr e2)]
     rw [hpe,firstE_at hkn he (by rw [this]; decide),this]; rfl
    ·obtain ⟨v',t1,t2⟩:=hv.take (k:=k) hk
     have hc:=contains_spec hN t2 (x:=x) (by simp; omega)
     have hsl:∀ a b c d e:AV,evalQ (.slice 1 (.tmp 0) none (some (.tmp 2)) none) [v,a, .int .i64 (k:Int),b,c,d,e] h = some v':=fun a b c d e => by
      rw [evalQ_sliceHi (k := .i64) (n:=(k:Int)) rfl]; exact t1
     by_cases e3:x ∈ l.take k
     ·rw [decide_eq_true e3] at hc
      simp (disch:=omega) only [RSe.down,hv.len,i1,l1,hsl,hc]
      refine ⟨(fun i hi => by cases hi),?_,trivial⟩
      have:peAt l k = 24:=by unfold peAt; rw [hgd,if_neg (by omega),if_pos e3]
      rw [hpe,firstE_at hkn he (by rw [this]; decide),this]; rfl
     ·rw [decide_eq_false e3] at hc
      simp (disch:=omega) only [RSe.down,hv.len,i1,l1,hsl,hc]
      refine next hkn _ ⟨⟨_,_,_,_,rfl⟩,fun j hj => ?_⟩
      by_cases ej:j = k
      ·unfold peAt
       rw [ej,hgd,if_neg (by omega),if_neg e3]
      ·exact he j (by omega)
  ·obtain rfl:k = l.length:=by omega
   simp (disch:=omega) only [RSe.down,hv.len]
   refine ⟨(fun i hi => by cases hi),?_,trivial⟩
   rw [hpe,firstE_zero he]; rfl
theorem element_spec {v:AV} {l:List Int} (hv:IAt h v l) (d:Int):lim otab.get I (.fn 188) [v, .int .i64 d] h = some (.int .i64 (genErr d l),h):=by
 refine lim_walk (fn:=of188) rfl (hN.at _ _ (by decide) (by decide) (by decide)) ?_
 show WK _ _ [] ⟨[v, .int .i64 d,aundef,aundef],h⟩ _
 dsimp only [of188,Z.t,Z.f,Z.i,Z.q,Z.m,Z.l,Z.b,Z.c,Z.w]
 unfold genErr
 by_cases e1:permErr l = 0
 ·by_cases e2:(l.length:Int) = d
  ·simp (disch:=omega) only [RSe.down,pcheck hN hv,hv.len,if_neg (show ¬ permErr l ≠ 0 from fun h => h e1),if_neg (show ¬ (l.length:Int) ≠ d from fun h => h e2)]
   refine ⟨(fun i hi => by cases hi),?_,trivial⟩
   rw [e1]; rfl
  ·simp (disch:=omega) only [RSe.down,pcheck hN hv,hv.len,if_neg (show ¬ permErr l ≠ 0 from fun h => h e1),if_pos e2]
   exact ⟨(fun i hi => by cases hi),rfl,trivial⟩
 ·simp (disch:=omega) only [RSe.down,pcheck hN hv,hv.len,if_pos e1]
  exact ⟨(fun i hi => by cases hi),rfl,trivial⟩
theorem gcheck {vg:AV} {ls:List (List Int)} (hg:LsAt h vg ls) (d:Int):∃ h',lim otab.get I (.fn 116) [.agg [.int .i64 d,vg]] h = some (.int .i64 (groupErr d ls),h') /\ Gro h h':=by
 have key:=lim_walk_ex (T:=otab.get) (I:=I) (f:=116) (fn:=of116) rfl (a:=[.agg [.int .i64 d,vg]]) (h:=h) (P:=fun a h' => a = .int .i64 (groupErr d ls) /\ Gro h h') (hN.at _ _ (by decide) (by decide) (by decide)) ?_
 ·obtain ⟨a,h',e,rfl,g⟩:=key; exact ⟨h',e,g⟩
 show WK _ _ [] ⟨[.agg [.int .i64 d,vg],aundef,aundef,aundef,aundef,aundef],h⟩ _
 dsimp only [of116,Z.t,Z.f,Z.i,Z.q,Z.m,Z.l,Z.b,Z.c,Z.w]
 have b0:=box_ld (h:=h) (c:=[.int .i64 d,vg]) (r:=true) (Gro.refl _) (o:=0) (x := .int .i64 d) rfl
 have b1:=box_ld (h:=h) (c:=[.int .i64 d,vg]) (r:=true) (Gro.refl _) (o:=1) (x:=vg) rfl
 have hg1:=hg.gro (Gro.push h (.cells [.int .i64 d,vg] true))
 have g1:=Gro.push h (.cells [.int .i64 d,vg] true)
 by_cases e1:d < 0
 ·simp (disch:=omega) only [RSe.down,b0,b1]
  refine ⟨(fun i hi => by cases hi),_,rfl,?_,g1⟩
  unfold groupErr degErr; rw [if_pos e1,if_pos (by decide)]; rfl
 ·by_cases e2:20 < d
  ·simp (disch:=omega) only [RSe.down,b0,b1]
   refine ⟨(fun i hi => by cases hi),_,rfl,?_,g1⟩
   unfold groupErr degErr; rw [if_neg e1,if_pos e2,if_pos (by decide)]; rfl
  ·have hde:degErr d = 0:=by unfold degErr; rw [if_neg e1,if_neg e2]
   by_cases e3:32 < ls.length
   ·simp (disch:=omega) only [RSe.down,b0,b1,hg.len]
    refine ⟨(fun i hi => by cases hi),_,rfl,?_,g1⟩
    unfold groupErr; rw [hde,if_neg (fun h => h rfl),if_pos e3]; rfl
   ·have hge : groupErr d ls = firstE (fun i => genErr d (ls.getD i [])) ls.length := by
     unfold groupErr; rw [hde,if_neg (fun h => h rfl),if_neg e3]
    simp (disch:=omega) only [RSe.down,b0,b1,hg.len]
    refine WK_loopJ (fun k s => (∃ y1 y2,s = ⟨[.int .i64 (k:Int),y1,y2, .ptr h.next 0,vg, .int .i64 (ls.length:Int)],h.push (.cells [.int .i64 d,vg] true)⟩) /\ ∀ j,j < k -> genErr d (ls.getD j []) = 0) ls.length ⟨⟨_,_,rfl⟩,fun j hj => absurd hj (Nat.not_lt_zero _)⟩ ?_
    rintro k hk _ ⟨⟨y1,y2,rfl⟩,he⟩ next
    by_cases hkn:k < ls.length
    ·obtain ⟨l,hl⟩:=get_some hkn
     obtain ⟨i1,a,l1,p1⟩:=hg1.get hl
     have hgd:=getD_some (d:=[]) hl
     have hel:=element_spec hN p1 d
     by_cases e4:genErr d l = 0
     ·simp (disch:=omega) only [RSe.down,i1,l1,b0,hel]
      refine next hkn _ ⟨⟨_,_,rfl⟩,fun j hj => ?_⟩
      by_cases ej:j = k
      ·rw [ej,hgd]; exact e4
      ·exact he j (by omega)
     ·simp (disch:=omega) only [RSe.down,i1,l1,b0,hel]
      refine ⟨(fun i hi => by cases hi),_,rfl,?_,g1⟩
      rw [hge,firstE_at hkn he (by rw [hgd]; exact e4),hgd]; rfl
    ·obtain rfl:k = ls.length:=by omega
     simp (disch:=omega) only [RSe.down]
     refine ⟨(fun i hi => by cases hi),_,rfl,?_,g1⟩
     rw [hge,firstE_zero he]; rfl
end
end Go.AM
namespace Go.AM
open Go Go.GT
def FewL (ls:List (List Int)):Prop:=ls.length <= 40 /\ ∀ l ∈ ls,l.length <= 40
def SmallG (d:Int) (ls:List (List Int)):Prop:=FewL ls /\ groupErr d ls = 0 /\ Fits d.toNat (gS ls) 240
instance (ls:List (List Int)):Decidable (FewL ls):=by unfold FewL; exact inferInstance
noncomputable instance (d:Int) (ls:List (List Int)):Decidable (SmallG d ls):=Classical.propDecidable _
end Go.AM
namespace Go.AM
open Go Go.GT
def Imm (lab:Nat -> Nat) (v:AV):Prop:=∀ j,oid v = some j -> lab j = 0
def IsSl (v:AV):Prop:=∃ i o m c,v = .slice i o m c
theorem IsSl.eq {v:AV} (h:IsSl v):bin .eql (.ref 1) v .nils = some (.bool false):=by obtain ⟨i,o,m,c,rfl⟩:=h; rfl
structure LvAt (lab:Nat -> Nat) (h:AHeap) (n k id:Nat) (l:Lv) (orb:AV) (iw:Nat) (gsv:AV) (cw cg:List AV):Prop where
 get:h.get id = some (.cells [.int .i64 (k:Int),orb, .slice iw 0 n (.exact n),gsv] true)
 lt:id < h.next
 li:lab id = 4 * k + 1
 oo:Own 1 h orb l.orb.length (pc l.orb)
 lo:∀ j,oid orb = some j -> lab j = 4 * k + 2
 w:h.get iw = some (.cells cw true)
 wlt:iw < h.next
 lw:lab iw = 4 * k + 3
 wlen:cw.length = n
 wn:∀ x,x < n -> wat l x = none -> cw[x]? = some .nils
 ws:∀ x p,wat l x = some p -> x < n /\ ∃ v,cw[x]? = some v /\ IsSl v /\ PmAt h v p /\ Imm lab v
 gg:Own 1 h gsv l.gs.length cg
 lg:∀ j,oid gsv = some j -> lab j = 4 * k + 4
 glen:cg.length = l.gs.length
 gel:∀ (i:Nat) (a:AV) (p:Pm),cg[i]? = some a -> l.gs[i]? = some p -> PmAt h a p /\ Imm lab a
def lvF (lab:Nat -> Nat) (k:Nat) (j:Nat):Prop:=lab j ≠ 0 /\ k <= (lab j - 1) / 4
def lvO (lab:Nat -> Nat) (k:Nat) (j:Nat):Prop:=lab j ≠ 0 /\ (lab j - 1) / 4 = k
structure ChAt (lab:Nat -> Nat) (h:AHeap) (n ic:Nat) (ids:Nat -> Nat) (c:List Lv):Prop where
 new:∀ j,h.next <= j -> lab j = 0
 len:c.length = n
 top:∃ lv cl,loadV none (.ptr ic 1) h = some lv /\ loadV none (.ptr ic 0) h = some (.int .i64 (n:Int)) /\ ic < h.next /\ lab ic = 0 /\ SlAt h lv cl /\ Imm lab lv /\ cl.length = n /\ ∀ k,k < n -> cl[k]? = some (.ptr (ids k) 0)
 lv:∀ (k:Nat) (l:Lv),c[k]? = some l -> ∃ orb iw gsv cw cg,LvAt lab h n k (ids k) l orb iw gsv cw cg
theorem PmAt.imm {F:Nat -> Prop} {lab:Nat -> Nat} {h h':AHeap} {v:AV} {p:Pm} (s:PmAt h v p) (i:Imm lab v) (c:Chg F h h') (hF:∀ j,F j -> lab j ≠ 0):PmAt h' v p:=s.chg c fun j hj hf => hF j hf (i j hj)
theorem Imm.lab {lab lab':Nat -> Nat} {h:AHeap} {v:AV} (i:Imm lab v) (hlt:∀ j,oid v = some j -> j < h.next) (hl:∀ j,j < h.next -> lab' j = lab j):Imm lab' v:=fun j hj => by rw [hl j (hlt j hj)]; exact i j hj
section
variable {lab lab':Nat -> Nat} {h h':AHeap} {n k id iw:Nat} {l:Lv} {orb gsv:AV} {cw cg:List AV} {F:Nat -> Prop}
theorem LvAt.keep (L:LvAt lab h n k id l orb iw gsv cw cg) (c:Chg F h h') (hF:∀ j,F j -> lab j ≠ 0 /\ (lab j - 1) / 4 ≠ k) (hl:∀ j,j < h.next -> lab' j = lab j):LvAt lab' h' n k id l orb iw gsv cw cg:=by
 have h1:¬ F id:=fun hf => (hF _ hf).2 (by rw [L.li]; omega)
 have h2:¬ F iw:=fun hf => (hF _ hf).2 (by rw [L.lw]; omega)
 have hF0:∀ j,F j -> lab j ≠ 0:=fun j hj => (hF j hj).1
 refine ⟨by rw [c.same _ L.lt h1]; exact L.get,Nat.lt_of_lt_of_le L.lt c.le,by rw [hl _ L.lt]; exact L.li,L.oo.chg c fun j hj hf => (hF _ hf).2 (by rw [L.lo j hj]; omega),fun j hj => by rw [hl _ (L.oo.lt hj)]; exact L.lo j hj,
  by rw [c.same _ L.wlt h2]; exact L.w,Nat.lt_of_lt_of_le L.wlt c.le,by rw [hl _ L.wlt]; exact L.lw,L.wlen,L.wn,fun x p hp => ?_,L.gg.chg c fun j hj hf => (hF _ hf).2 (by rw [L.lg j hj]; omega),fun j hj => by rw [hl _ (L.gg.lt hj)]; exact L.lg j hj,L.glen,fun i a p ha hp => ?_⟩
 ·obtain ⟨q1,v,q2,q3,q4,q5⟩:=L.ws x p hp
  exact ⟨q1,v,q2,q3,q4.imm q5 c hF0,q5.lab (fun j hj => SlAt.oid_lt q4 hj) hl⟩
 ·obtain ⟨q1,q2⟩:=L.gel i a p ha hp
  exact ⟨q1.imm q2 c hF0,q2.lab (fun j hj => SlAt.oid_lt q1 hj) hl⟩
theorem LvAt.gro (L:LvAt lab h n k id l orb iw gsv cw cg) (g:Gro h h'):LvAt lab h' n k id l orb iw gsv cw cg :=
 L.keep (F:=fun _ => False) g.chg (fun _ hf => hf.elim) fun _ _ => rfl
variable {ic:Nat} {ids:Nat -> Nat} {c:List Lv}
theorem loadV_same {i o:Nat} {F:Nat -> Prop} (k:Chg F h h') (hi:i < h.next) (hF:¬ F i):loadV none (.ptr i o) h' = loadV none (.ptr i o) h:=by
 show (match cellsOf h' i with | some c => fit none o c | none => none) = (match cellsOf h i with | some c => fit none o c | none => none)
 rw [k.cells hi hF]
theorem ChAt.top_keep (C : ChAt lab h n ic ids c) (k : Chg F h h') (hF : ∀ j, F j -> lab j ≠ 0) (hl : ∀ j, j < h.next -> lab' j = lab j) :
  ∃ lv cl,loadV none (.ptr ic 1) h' = some lv /\ loadV none (.ptr ic 0) h' = some (.int .i64 (n:Int)) /\ ic < h'.next /\ lab' ic = 0 /\ SlAt h' lv cl /\ Imm lab' lv /\ cl.length = n /\ ∀ k,k < n -> cl[k]? = some (.ptr (ids k) 0):=by
 obtain ⟨lv,cl,a1,a2,a3,a4,a5,a6,a7,a8⟩:=C.top
 have hn:¬ F ic:=fun hf => hF _ hf a4
 exact ⟨lv,cl,by rw [loadV_same k a3 hn]; exact a1,by rw [loadV_same k a3 hn]; exact a2,Nat.lt_of_lt_of_le a3 k.le,by rw [hl _ a3]; exact a4,a5.chg k fun j hj hf => hF _ hf (a6 j hj),a6.lab (fun j hj => a5.oid_lt hj) hl,a7,a8⟩
theorem ChAt.gro (C:ChAt lab h n ic ids c) (g:Gro h h'):ChAt lab h' n ic ids c :=
 ⟨fun j hj => C.new j (Nat.le_trans g.le hj),C.len,C.top_keep (F:=fun _ => False) g.chg (fun _ hf => hf.elim) fun _ _ => rfl,fun k l hl => by
  obtain ⟨orb,iw,gsv,cw,cg,L⟩:=C.lv k l hl
  exact ⟨orb,iw,gsv,cw,cg,L.gro g⟩⟩
theorem ChAt.at (C : ChAt lab h n ic ids c) {k : Nat} (hk : k < n) : ∃ lv, loadV none (.ptr ic 1) h = some lv /\ (∀ q, iaddrV 1 lv (.int q (k : Int)) = some (eaddr lv k)) /\ loadV none (eaddr lv k) h = some (.ptr (ids k) 0) /\
  ∃ l,c[k]? = some l /\ ∃ orb iw gsv cw cg,LvAt lab h n k (ids k) l orb iw gsv cw cg:=by
 obtain ⟨lv,cl,a1,a2,a3,a4,a5,a6,a7,a8⟩:=C.top
 obtain ⟨l,hl⟩:=get_some (show k < c.length by rw [C.len]; exact hk)
 exact ⟨lv,a1,fun q => a5.iaddr (by omega),a5.load (a8 k hk),l,hl,C.lv k l hl⟩
theorem ChAt.deg (C:ChAt lab h n ic ids c):loadV none (.ptr ic 0) h = some (.int .i64 (n:Int)):=by
 obtain ⟨lv,cl,a1,a2,_⟩:=C.top; exact a2
theorem LvAt.l1 (L:LvAt lab h n k id l orb iw gsv cw cg):loadV none (.ptr id 1) h = some orb:=loadV_get L.get rfl
theorem LvAt.l2 (L:LvAt lab h n k id l orb iw gsv cw cg):loadV none (.ptr id 2) h = some (.slice iw 0 n (.exact n)):=loadV_get L.get rfl
theorem LvAt.l3 (L:LvAt lab h n k id l orb iw gsv cw cg):loadV none (.ptr id 3) h = some gsv:=loadV_get L.get rfl
theorem LvAt.word_none (L:LvAt lab h n k id l orb iw gsv cw cg) {x:Nat} (hx:x < n) (e:wat l x = none):loadV none (.ptr iw x) h = some .nils:=loadV_get L.w (L.wn x hx e)
theorem LvAt.word_some (L:LvAt lab h n k id l orb iw gsv cw cg) {x:Nat} {p:Pm} (e:wat l x = some p):∃ v,loadV none (.ptr iw x) h = some v /\ IsSl v /\ PmAt h v p /\ Imm lab v:=by
 obtain ⟨_,v,q2,q3,q4,q5⟩:=L.ws x p e
 exact ⟨v,loadV_get L.w q2,q3,q4,q5⟩
end
theorem NewPm.isSl {h h':AHeap} {v:AV} {p:Pm} (s:NewPm h h' v p):IsSl v:=by obtain ⟨i,cap,e,_⟩:=s.new; exact ⟨i,0,_,cap,e⟩
theorem NewPm.fresh {h h':AHeap} {v:AV} {p:Pm} (s:NewPm h h' v p) {j:Nat} (hj:oid v = some j):h.next <= j:=by obtain ⟨i,cap,e,hi⟩:=s.new; subst e; cases hj; exact hi
theorem NewPm.imm {lab:Nat -> Nat} {h h':AHeap} {v:AV} {p:Pm} (s:NewPm h h' v p) (hn:∀ j,h.next <= j -> lab j = 0):Imm lab v:=fun j hj => hn j (s.fresh hj)
theorem drop_cons {α:Type} {c:List α} {k:Nat} {l:α} (h:c[k]? = some l):c.drop k = l :: c.drop (k + 1):=by
 obtain ⟨hk,e⟩:=List.getElem?_eq_some_iff.1 h
 rw [List.drop_eq_getElem_cons hk,e]
section
variable {I:Oracle} (hN:NoI I) {h:AHeap} {n ic:Nat} {ids lab:Nat -> Nat} {c:List Lv} {G0:List Pm}
include hN
theorem sift_spec (C : ChAt lab h n ic ids c) (hn : n <= 20) {j : Nat} (hj : j <= n) (hc : ChOK n G0 j (c.drop j)) {v : AV} {p : Pm} (hv : PmAt h v p) (hp : PV n p) :
  ∃ v' at_ h',lim otab.get I (.fn 190) [.ptr ic 0,v, .int .i64 (j:Int)] h = some (.tup [v', .int .i64 ((at_:Nat):Int)],h') /\ Gro h h' /\ at_ <= n /\ (at_ = n ↔ InS (c.drop j) j p):=by
 have key:=lim_walk_ex (T:=otab.get) (I:=I) (f:=190) (fn:=of190) rfl (a:=[.ptr ic 0,v, .int .i64 (j:Int)]) (h:=h)
  (P:=fun a h' => ∃ v':AV, ∃ at_:Nat,a = .tup [v', .int .i64 (at_:Int)] /\ Gro h h' /\ at_ <= n /\ (at_ = n ↔ InS (c.drop j) j p)) (hN.at _ _ (by decide) (by decide) (by decide)) ?_
 ·obtain ⟨a,h',e,v',at_,rfl,r⟩:=key; exact ⟨v',at_,h',e,r⟩
 show WK _ _ [] ⟨[.ptr ic 0,v, .int .i64 (j:Int),aundef,aundef],h⟩ _
 dsimp only [of190,Z.t,Z.f,Z.i,Z.q,Z.m,Z.l,Z.b,Z.c,Z.w]
 simp (disch:=omega) only [RSe.down]
 refine WK_loopJ (fun r s => r <= n - j /\ ∃ v' q y3 y4 h',s = ⟨[.ptr ic 0,v', .int .i64 ((j + r:Nat):Int),y3,y4],h'⟩ /\ Gro h h' /\ PmAt h' v' q /\ PV n q /\ ChOK n G0 (j + r) (c.drop (j + r)) /\ (InS (c.drop j) j p ↔ InS (c.drop (j + r)) (j + r) q)) (n - j)
  ⟨Nat.zero_le _,v,p,_,_,h,rfl,Gro.refl _,hv,hp,hc,Iff.rfl⟩ ?_
 rintro r hr _ ⟨hr2,v',q,y3,y4,h',rfl,g,hv',hq,hc',hiff⟩ next
 have C':=C.gro g
 have hCn:=C'.deg
 by_cases hrn:r < n - j
 ·obtain ⟨lv,t1,t2,t3,l,hl,orb,iw,gsv,cw,cg,L⟩:=C'.at (k:=j + r) (by omega)
  have hd:=drop_cons hl
  rw [hd] at hc' hiff
  obtain ⟨hk,hlo,_,hcr⟩:=hc'
  have hx:=hq.ap_lt hk
  have p1:=hv'.iaddr (q := .i64) (k:=j + r) (by rw [hq.len]; exact hk)
  have p2:=hv'.load (k:=j + r) (by rw [hq.len]; exact hk)
  cases hw:wat l (ap q (j + r)) with
  | none =>
   have hwn:=L.word_none hx hw
   simp (disch:=omega) only [RSe.down,hCn,t1,t2,t3,L.l2,p1,p2,iaddrS,hwn]
   refine ⟨(fun i hi => by cases hi),_,rfl,v',j + r,rfl,g,by omega,⟨fun e => absurd e (by omega),fun hi => ?_⟩⟩
   obtain ⟨w,e,_⟩:=InS_cons.1 (hiff.1 hi)
   rw [hw] at e; cases e
  | some w =>
   obtain ⟨vw,hws,hsl,hpw,himm⟩:=L.word_some hw
   obtain ⟨w1,w2,w3,w4⟩:=hlo.word _ _ hw
   have hInS:InS (c.drop j) j p ↔ InS (c.drop (j + r + 1)) (j + r + 1) (mul q (inv w)):=by
    rw [hiff,InS_cons,hw]
    exact ⟨fun ⟨z,e,hz⟩ => by cases e; exact hz,fun hz => ⟨w,rfl,hz⟩⟩
   by_cases e:ap q (j + r) = j + r
   ·have hw1:w = one n:=by rw [e,hlo.base] at hw; exact (Option.some.inj hw).symm
    rw [hw1,PV.inv_one,hq.mul_one] at hInS
    simp (disch:=omega) only [RSe.down,hCn,t1,t2,t3,L.l2,p1,p2,iaddrS,hws,hsl.eq]
    exact next hrn _ ⟨by omega,v',q,_,_,h',rfl,g,hv',hq,hcr,hInS⟩
   ·obtain ⟨v5,h5,e5,n5⟩:=binv hN hpw w1 (by omega)
    obtain ⟨v6,h6,e6,n6⟩:=bmul hN (hv'.gro n5.gro) n5.at_ hq w1.inv (by omega)
    simp (disch:=omega) only [RSe.down,hCn,t1,t2,t3,L.l2,p1,p2,iaddrS,hws,hsl.eq,e5,e6]
    exact next hrn _ ⟨by omega,v6,_,_,_,h6,rfl,g.trans (n5.gro.trans n6.gro),n6.at_,hq.mul w1.inv,hcr,hInS⟩
 ·obtain rfl:r = n - j:=by omega
  have ej:j + (n - j) = n:=by omega
  rw [ej] at hiff ⊢
  simp (disch:=omega) only [RSe.down,hCn]
  refine ⟨(fun i hi => by cases hi),_,rfl,v',n,rfl,g,Nat.le_refl _,⟨fun _ => hiff.2 ?_,fun _ => rfl⟩⟩
  rw [List.drop_eq_nil_of_le (by rw [C.len]; exact Nat.le_refl _)]; trivial
end
end Go.AM
namespace Go.AM
open Go Go.GT
theorem pc_app {p:Pm} {x:Nat}:pc p ++ [.int .i64 (x:Int)] = pc (p ++ [x]):=by unfold pc; rw [List.map_append]; rfl
section
variable {lab lab':Nat -> Nat} {h h':AHeap} {n k id iw:Nat} {l:Lv} {orb gsv:AV} {cw cg:List AV}
theorem LvAt.setw (L : LvAt lab h n k id l orb iw gsv cw cg) {x : Nat} {vp : AV} {p : Pm} (hx : x < n) (hv : PmAt h vp p) (hs : IsSl vp) (hi : Imm lab vp) (hwl : l.wd.length = n) (ho : l.orb.length <= 1000) :
  ∃ h1 h2 h3 b',stV 1 (.ptr iw x) vp h = some (aundef,h1) /\ loadV none (.ptr id 1) h1 = some orb /\ h1.next = h.next /\
   appV 1 8 orb (.slice h1.next 0 1 (.exact 1)) (h1.push (.cells [.int .i64 (x:Int)] true)) = some (b',h2) /\ stV 1 (.ptr id 1) b' h2 = some (aundef,h3) /\ Chg (lvO lab k) h h3 /\ h3.next = h.next + 2 /\
   LvAt (fun j => if j = h.next + 1 then 4 * k + 2 else lab j) h3 n k id (setWord l x p) b' iw gsv (cw.set x vp) cg:=by
 have hvs:vp.scalar = true:=hv.scalar
 have e1:=stV_at L.w (show x < cw.length by rw [L.wlen]; exact hx) hvs
 have hne:id ≠ iw:=fun e => by have:=L.li; rw [e,L.lw] at this; omega
 have hno:∀ j,oid orb = some j -> j ≠ iw /\ j ≠ id:=fun j hj => ⟨fun e => by have:=L.lo j hj; rw [e,L.lw] at this; omega,fun e => by have:=L.lo j hj; rw [e,L.li] at this; omega⟩
 have hng:∀ j,oid gsv = some j -> j ≠ iw /\ j ≠ id /\ oid orb ≠ some j:=fun j hj => ⟨fun e => by have:=L.lg j hj; rw [e,L.lw] at this; omega,fun e => by have:=L.lg j hj; rw [e,L.li] at this; omega,fun e => by have:=L.lg j hj; rw [L.lo j e] at this; omega⟩
 have c1:Chg (fun j => j = iw) h (h.set iw (.cells (cw.set x vp) true)):=Chg.set (F:=fun j => j = iw) h rfl _
 have o1:=L.oo.chg c1 fun j hj => (hno j hj).1
 obtain ⟨b',h2,e2,o2,c2,i2,x2⟩:=o1.app1 (bytes:=8) (c:=[.int .i64 (x:Int)]) rfl rfl (by decide) (by omega)
 have hn1:(h.set iw (.cells (cw.set x vp) true)).next = h.next:=rfl
 rw [hn1] at i2 x2
 have g2:h2.get id = some (.cells [.int .i64 (k:Int),orb, .slice iw 0 n (.exact n),gsv] true):=by
  rw [c2.same id L.lt (fun e => (hno id e).2 rfl),c1.same id L.lt hne]; exact L.get
 have bs:b'.scalar = true:=(Own.at o2).scalar
 have e3:=stV_at (k:=1) (x:=b') g2 (by simp) bs
 have c3:Chg (fun j => j = id) h2 (h2.set id (.cells [.int .i64 (k:Int),b', .slice iw 0 n (.exact n),gsv] true)):=Chg.set (F:=fun j => j = id) h2 rfl _
 have hO:∀ j,j = iw \/ oid orb = some j \/ j = id -> lvO lab k j:=by
  rintro j (e | e | e)
  ·subst e; exact ⟨by rw [L.lw]; omega,by rw [L.lw]; omega⟩
  ·exact ⟨by rw [L.lo j e]; omega,by rw [L.lo j e]; omega⟩
  ·subst e; exact ⟨by rw [L.li]; omega,by rw [L.li]; omega⟩
 have call:Chg (lvO lab k) h (h2.set id (.cells [.int .i64 (k:Int),b', .slice iw 0 n (.exact n),gsv] true)) :=
  ((c1.mono (G:=lvO lab k) fun j _ hj => hO j (.inl hj)).trans c2 fun j _ hj => hO j (.inr (.inl hj))).trans c3 fun j _ hj => hO j (.inr (.inr hj))
 have hl:∀ j,j < h.next -> (fun j => if j = h.next + 1 then 4 * k + 2 else lab j) j = lab j:=fun j hj => if_neg (by omega)
 have keep:∀ {v q},PmAt h v q -> Imm lab v -> PmAt (h2.set id (.cells [.int .i64 (k:Int),b', .slice iw 0 n (.exact n),gsv] true)) v q /\ Imm (fun j => if j = h.next + 1 then 4 * k + 2 else lab j) v:=fun hq hm =>
  ⟨hq.imm hm call fun j hj => hj.1,hm.lab (fun j hj => SlAt.oid_lt hq hj) hl⟩
 have hnb:h.next + 1 ≠ id:=by have:=L.lt; omega
 refine ⟨_,h2,_,b',e1,?_,rfl,e2,e3,call,x2,?_⟩
 ·exact loadV_get (by rw [c1.same id L.lt hne]; exact L.get) rfl
 ·refine ⟨AHeap.get_set_same h2 id _,?_,(hl _ L.lt).trans L.li,?_,fun j hj => ?_,?_,?_,(hl _ L.wlt).trans L.lw,by rw [List.length_set]; exact L.wlen,fun y hy e => ?_,fun y q e => ?_,?_,fun j hj => (hl _ (L.gg.lt hj)).trans (L.lg j hj),L.glen,fun i a q ha hq => keep (L.gel i a q ha hq).1 (L.gel i a q ha hq).2⟩
  ·rw [AHeap.next_set,x2]; have:=L.lt; omega
  ·show Own 1 _ b' (l.orb ++ [x]).length (pc (l.orb ++ [x]))
   rw [<- pc_app,List.length_append]
   exact o2.chg c3 fun j hj e => by rw [i2] at hj; cases hj; exact hnb e
  ·rw [i2] at hj; cases hj; exact if_pos rfl
  ·rw [AHeap.get_set_ne _ _ (Ne.symm hne),c2.same iw L.wlt (fun e => (hno iw e).1 rfl),AHeap.get_set_same]
  ·rw [AHeap.next_set,x2]; have:=L.wlt; omega
  ·have hw:=wat_set (l:=l) (p:=p) (x:=x) (by rw [hwl]; exact hx) y
   rw [hw] at e
   by_cases ey:y = x
   ·rw [if_pos ey] at e; cases e
   ·rw [if_neg ey] at e
    rw [List.getElem?_set_ne (fun h => ey h.symm)]; exact L.wn y hy e
  ·have hw:=wat_set (l:=l) (p:=p) (x:=x) (by rw [hwl]; exact hx) y
   rw [hw] at e
   by_cases ey:y = x
   ·rw [if_pos ey] at e; cases e; subst ey
    obtain ⟨q1,q2⟩:=keep hv hi
    exact ⟨hx,vp,List.getElem?_set_self (by rw [L.wlen]; exact hx),hs,q1,q2⟩
   ·rw [if_neg ey] at e
    obtain ⟨q1,v,q2,q3,q4,q5⟩:=L.ws y q e
    obtain ⟨k1,k2⟩:=keep q4 q5
    exact ⟨q1,v,by rw [List.getElem?_set_ne (fun h => ey h.symm)]; exact q2,q3,k1,k2⟩
  ·exact ((L.gg.chg c1 fun j hj => (hng j hj).1).chg c2 fun j hj => (hng j hj).2.2).chg c3 fun j hj => (hng j hj).2.1
theorem LvAt.addg (L : LvAt lab h n k id l orb iw gsv cw cg) {vg : AV} {g : Pm} (hv : PmAt h vg g) (hi : Imm lab vg) (ho : l.gs.length <= 100000) :
  ∃ h2 h3 b',bslV vg h = some (.cells [vg] true, .slice h.next 0 1 (.exact 1)) /\ appV 1 24 gsv (.slice h.next 0 1 (.exact 1)) (h.push (.cells [vg] true)) = some (b',h2) /\ stV 1 (.ptr id 3) b' h2 = some (aundef,h3) /\ Chg (lvO lab k) h h3 /\ h3.next = h.next + 2 /\
   LvAt (fun j => if j = h.next + 1 then 4 * k + 4 else lab j) h3 n k id (addGen l g) orb iw b' cw (cg ++ [vg]):=by
 have hvs:vg.scalar = true:=hv.scalar
 have hng:∀ j,oid gsv = some j -> j ≠ iw /\ j ≠ id /\ oid orb ≠ some j:=fun j hj => ⟨fun e => by have:=L.lg j hj; rw [e,L.lw] at this; omega,fun e => by have:=L.lg j hj; rw [e,L.li] at this; omega,fun e => by have:=L.lg j hj; rw [L.lo j e] at this; omega⟩
 have hne:id ≠ iw:=fun e => by have:=L.li; rw [e,L.lw] at this; omega
 have hno:∀ j,oid orb = some j -> j ≠ id:=fun j hj e => by have:=L.lo j hj; rw [e,L.li] at this; omega
 obtain ⟨b',h2,e2,o2,c2,i2,x2⟩:=L.gg.app1 (bytes:=24) (c:=[vg]) rfl (by simp [hvs]) (by decide) (by omega)
 have g2:h2.get id = some (.cells [.int .i64 (k:Int),orb, .slice iw 0 n (.exact n),gsv] true):=by
  rw [c2.same id L.lt (fun e => (hng id e).2.1 rfl)]; exact L.get
 have bs:b'.scalar = true:=(Own.at o2).scalar
 have e3:=stV_at (k:=3) (x:=b') g2 (by simp) bs
 have c3:Chg (fun j => j = id) h2 (h2.set id (.cells [.int .i64 (k:Int),orb, .slice iw 0 n (.exact n),b'] true)):=Chg.set (F:=fun j => j = id) h2 rfl _
 have hO:∀ j,oid gsv = some j \/ j = id -> lvO lab k j:=by
  rintro j (e | e)
  ·exact ⟨by rw [L.lg j e]; omega,by rw [L.lg j e]; omega⟩
  ·subst e; exact ⟨by rw [L.li]; omega,by rw [L.li]; omega⟩
 have call:Chg (lvO lab k) h (h2.set id (.cells [.int .i64 (k:Int),orb, .slice iw 0 n (.exact n),b'] true)) :=
  (c2.mono (G:=lvO lab k) fun j _ hj => hO j (.inl hj)).trans c3 fun j _ hj => hO j (.inr hj)
 have hl:∀ j,j < h.next -> (fun j => if j = h.next + 1 then 4 * k + 4 else lab j) j = lab j:=fun j hj => if_neg (by omega)
 have keep:∀ {v q},PmAt h v q -> Imm lab v -> PmAt (h2.set id (.cells [.int .i64 (k:Int),orb, .slice iw 0 n (.exact n),b'] true)) v q /\ Imm (fun j => if j = h.next + 1 then 4 * k + 4 else lab j) v:=fun hq hm =>
  ⟨hq.imm hm call fun j hj => hj.1,hm.lab (fun j hj => SlAt.oid_lt hq hj) hl⟩
 have hnb:h.next + 1 ≠ id:=by have:=L.lt; omega
 refine ⟨h2,_,b',bslV_sc hvs,e2,e3,call,x2,?_⟩
 refine ⟨AHeap.get_set_same h2 id _,?_,(hl _ L.lt).trans L.li,?_,fun j hj => (hl _ (L.oo.lt hj)).trans (L.lo j hj),?_,?_,(hl _ L.wlt).trans L.lw,L.wlen,L.wn,fun y q e => ?_,?_,fun j hj => ?_,?_,fun i a q ha hq => ?_⟩
 ·rw [AHeap.next_set,x2]; have:=L.lt; omega
 ·exact (L.oo.chg c2 fun j hj e => (hng j e).2.2 hj).chg c3 fun j hj => hno j hj
 ·rw [AHeap.get_set_ne _ _ (Ne.symm hne),c2.same iw L.wlt (fun e => (hng iw e).1 rfl)]; exact L.w
 ·rw [AHeap.next_set,x2]; have:=L.wlt; omega
 ·obtain ⟨q1,v,q2,q3,q4,q5⟩:=L.ws y q e
  obtain ⟨k1,k2⟩:=keep q4 q5
  exact ⟨q1,v,q2,q3,k1,k2⟩
 ·show Own 1 _ b' (l.gs ++ [g]).length (cg ++ [vg])
  rw [List.length_append]
  exact o2.chg c3 fun j hj e => by rw [i2] at hj; cases hj; exact hnb e
 ·rw [i2] at hj; cases hj; exact if_pos rfl
 ·show (cg ++ [vg]).length = (l.gs ++ [g]).length
  rw [List.length_append,List.length_append,L.glen]; rfl
 ·have hq':(l.gs ++ [g])[i]? = some q:=hq
  by_cases ei:i < l.gs.length
  ·rw [List.getElem?_append_left (by rw [L.glen]; exact ei)] at ha
   rw [List.getElem?_append_left ei] at hq'
   exact keep (L.gel i a q ha hq').1 (L.gel i a q ha hq').2
  ·have e2 : i = l.gs.length := by
    have:=(List.getElem?_eq_some_iff.1 hq').1
    simp at this; omega
   subst e2
   rw [List.getElem?_append_right (by rw [L.glen]; exact Nat.le_refl _),L.glen] at ha
   rw [List.getElem?_append_right (Nat.le_refl _)] at hq'
   simp at ha hq'; subst ha; subst hq'
   exact keep hv hi
variable {ic:Nat} {ids:Nat -> Nat} {c:List Lv}
theorem ChAt.upd (C : ChAt lab h n ic ids c) {l' : Lv} {orb' gsv' : AV} {iw' : Nat} {cw' cg' : List AV} (k1 : Chg (lvO lab k) h h') (hl : ∀ j, j < h.next -> lab' j = lab j) (hnew : ∀ j, h'.next <= j -> lab' j = 0)
  (L:LvAt lab' h' n k (ids k) l' orb' iw' gsv' cw' cg'):ChAt lab' h' n ic ids (c.set k l'):=by
 refine ⟨hnew,by rw [List.length_set]; exact C.len,C.top_keep k1 (fun j hj => hj.1) hl,fun i m hm => ?_⟩
 by_cases e:i = k
 ·subst e
  have hi:i < c.length:=by
   have:=(List.getElem?_eq_some_iff.1 hm).1
   rwa [List.length_set] at this
  rw [List.getElem?_set_self hi] at hm
  cases hm
  exact ⟨_,_,_,_,_,L⟩
 ·rw [List.getElem?_set_ne (fun h => e h.symm)] at hm
  obtain ⟨orb,iw,gsv,cw,cg,M⟩:=C.lv i m hm
  exact ⟨orb,iw,gsv,cw,cg,M.keep k1 (fun j hj => ⟨hj.1,fun e2 => e (by rw [<- e2,hj.2])⟩) hl⟩
end
theorem drop_set {α:Type} {c:List α} {k:Nat} {l:α} (hk:k < c.length):(c.set k l).drop k = l :: c.drop (k + 1):=by
 rw [List.drop_eq_getElem_cons (by rw [List.length_set]; exact hk),List.getElem_set_self,List.drop_set_of_lt (Nat.lt_succ_self k)]
theorem take_set {α:Type} {c:List α} {k:Nat} {l:α}:(c.set k l).take k = c.take k:=List.take_set_of_le (Nat.le_refl k)
end Go.AM
namespace Go.AM
open Go Go.GT
structure Done (lab:Nat -> Nat) (h:AHeap) (n ic:Nat) (ids:Nat -> Nat) (k:Nat) (c:List Lv) (lab':Nat -> Nat) (h':AHeap) (c':List Lv):Prop where
 ch:ChAt lab' h' n ic ids c'
 take:c'.take k = c.take k
 chg:Chg (lvF lab k) h h'
 lab:∀ j,j < h.next -> lab' j = lab j
theorem lvO_F {lab:Nat -> Nat} {k j:Nat} (h:lvO lab k j):lvF lab k j:=⟨h.1,by rw [h.2]; exact Nat.le_refl _⟩
theorem Done.start {lab:Nat -> Nat} {h:AHeap} {n ic:Nat} {ids:Nat -> Nat} {k:Nat} {c:List Lv} (C:ChAt lab h n ic ids c):Done lab h n ic ids k c lab h c:=⟨C,rfl,Chg.refl _,fun _ _ => rfl⟩
theorem Done.gro {lab:Nat -> Nat} {h:AHeap} {n ic:Nat} {ids:Nat -> Nat} {k:Nat} {c:List Lv} {lab':Nat -> Nat} {h' h2:AHeap} {c':List Lv} (D:Done lab h n ic ids k c lab' h' c') (g:Gro h' h2):Done lab h n ic ids k c lab' h2 c' :=
 ⟨D.ch.gro g,D.take,D.chg.trans (G:=fun _ => False) g.chg (fun _ _ h => h.elim),D.lab⟩
theorem Done.trans {lab:Nat -> Nat} {h:AHeap} {n ic:Nat} {ids:Nat -> Nat} {k m:Nat} {c:List Lv} {lab' lab2:Nat -> Nat} {h' h2:AHeap} {c' c2:List Lv} (D:Done lab h n ic ids k c lab' h' c') (E:Done lab' h' n ic ids m c' lab2 h2 c2) (hkm:k <= m):Done lab h n ic ids k c lab2 h2 c2:=by
 refine ⟨E.ch,?_,D.chg.trans E.chg fun j hj hf => ?_,fun j hj => by rw [E.lab j (Nat.lt_of_lt_of_le hj D.chg.le),D.lab j hj]⟩
 ·have e:=congrArg (List.take k) E.take
  rw [List.take_take,List.take_take,Nat.min_eq_left hkm] at e
  rw [e,D.take]
 ·have:=hf; unfold lvF at this ⊢; rw [D.lab j hj] at this; exact ⟨this.1,by omega⟩
theorem PmAt.done {lab:Nat -> Nat} {h:AHeap} {n ic:Nat} {ids:Nat -> Nat} {k:Nat} {c:List Lv} {lab':Nat -> Nat} {h':AHeap} {c':List Lv} (D:Done lab h n ic ids k c lab' h' c') {v:AV} {p:Pm} (hv:PmAt h v p) (hi:Imm lab v):PmAt h' v p /\ Imm lab' v :=
 ⟨hv.imm hi D.chg fun _ hj => hj.1,hi.lab (fun _ hj => SlAt.oid_lt hv hj) D.lab⟩
theorem cons_of_drop {c:List Lv} {k:Nat} {l:Lv} {r:List Lv} (h:c.drop k = l :: r):c[k]? = some l /\ c.drop (k + 1) = r:=by
 have h1:(c.drop k)[0]? = some l:=by rw [h]; rfl
 rw [List.getElem?_drop,Nat.add_zero] at h1
 refine ⟨h1,?_⟩
 rw [<- List.drop_drop,h]; rfl
section
variable (I:Oracle) (n:Nat) (G0:List Pm) (ic:Nat) (ids:Nat -> Nat)
def ReachOK (k u:Nat):Prop:=∀ (lab:Nat -> Nat) (h:AHeap) (c:List Lv) (l:Lv) (r:List Lv) (v:AV) (p:Pm),ChAt lab h n ic ids c -> c.drop k = l :: r -> ChOK n G0 k (l :: r) -> Cl (k + 1) r -> PV n p -> Fx k p -> Gen n l.gs p -> PmAt h v p -> IsSl v -> Imm lab v -> n - l.orb.length <= u ->
 ∃ h' lab' c' l' r',lim otab.get I (.fn 257) [.ptr ic 0, .int .i64 (k:Int),v] h = some (.tup [],h') /\ Done lab h n ic ids k c lab' h' c' /\ c'.drop k = l' :: r' /\ Reached n G0 k l r p l' r'
def InsertOK (k:Nat):Prop:=∀ (lab:Nat -> Nat) (h:AHeap) (c:List Lv) (l:Lv) (r:List Lv) (v:AV) (g:Pm),ChAt lab h n ic ids c -> c.drop k = l :: r -> ChOK n G0 k (l :: r) -> Cl k (l :: r) -> Insertable n G0 k (l :: r) g -> PmAt h v g -> Imm lab v ->
 ∃ h' lab' c' l' r',lim otab.get I (.fn 226) [.ptr ic 0, .int .i64 (k:Int),v] h = some (.tup [],h') /\ Done lab h n ic ids k c lab' h' c' /\ c'.drop k = l' :: r' /\ Inserted n G0 k l r g l' r'
end
def Bnd (n:Nat) (G0:List Pm) (b:Nat):Prop:=∃ A:List Pm,(∀ p,Gen n G0 p -> p ∈ A) /\ A.length <= b
theorem LvOK.gs_len {n:Nat} {G0:List Pm} {k:Nat} {l:Lv} (h:LvOK n G0 k l) {b:Nat} (hA:Bnd n G0 b):l.gs.length <= b:=by
 obtain ⟨A,h1,h2⟩:=hA
 exact Nat.le_trans (nodup_le h.gnd fun g hg => h1 g (h.gen g hg).2.2) h2
section
variable {I:Oracle} (hN:NoI I) {n:Nat} {G0:List Pm} {ic:Nat} {ids:Nat -> Nat} (hn:n <= 20) (hG:∀ s ∈ G0,PV n s) (hA:Bnd n G0 5040)
include hN hn hG hA
theorem reach_ok {k:Nat} (hk:k < n) (hins:k + 1 < n -> InsertOK I n G0 ic ids (k + 1)):∀ u,ReachOK I n G0 ic ids k u:=by
 intro u
 induction u using Nat.strongRecOn with
 | ind u ih =>
 intro lab h c l r v p C hd hch hcl hp hf hg hv hs hi hu
 have key:=lim_walk_ex (T:=otab.get) (I:=I) (f:=257) (fn:=of257) rfl (a:=[.ptr ic 0, .int .i64 (k:Int),v]) (h:=h)
  (P:=fun a h' => ∃ lab' c' l' r',a = .tup [] /\ Done lab h n ic ids k c lab' h' c' /\ c'.drop k = l' :: r' /\ Reached n G0 k l r p l' r') (hN.at _ _ (by decide) (by decide) (by decide)) ?_
 ·obtain ⟨a,h',e,lab',c',l',r',rfl,q⟩:=key; exact ⟨h',lab',c',l',r',e,q⟩
 show WK _ _ [] ⟨[.ptr ic 0, .int .i64 (k:Int),v,aundef,aundef,aundef],h⟩ _
 dsimp only [of257,Z.t,Z.f,Z.i,Z.q,Z.m,Z.l,Z.b,Z.c,Z.w]
 obtain ⟨hck,hcr⟩:=cons_of_drop hd
 have hlo:=hch.2.1
 have hgs:=LvOK.gs_len hlo hA
 have horb:=hlo.orb_n hk
 have hCn:=C.deg
 obtain ⟨lv,t1,t2,t3,l0,hl0,orb,iw,gsv,cw,cg,L⟩:=C.at hk
 rw [hck] at hl0; cases hl0
 have hx:=hp.ap_lt hk
 have p1:=hv.iaddr (q := .i64) (k:=k) (by rw [hp.len]; exact hk)
 have p2:=hv.load (k:=k) (by rw [hp.len]; exact hk)
 cases hw:wat l (ap p k) with
 | none =>
  have hwn:=L.word_none hx hw
  obtain ⟨h1,h2,h3,b',e1,e2,e3,e4,e5,cg1,hnx,L1⟩:=L.setw hx hv hs hi hlo.wlen (by omega)
  have hlab:∀ j,j < h.next -> (fun j => if j = h.next + 1 then 4 * k + 2 else lab j) j = lab j:=fun j hj => if_neg (by omega)
  have D1:Done lab h n ic ids k c (fun j => if j = h.next + 1 then 4 * k + 2 else lab j) h3 (c.set k (setWord l (ap p k) p)) :=
   ⟨C.upd cg1 hlab (fun j hj => by rw [hnx] at hj; exact (if_neg (by omega)).trans (C.new j (by omega))) L1,take_set,cg1.mono fun j _ hj => lvO_F hj,hlab⟩
  simp (disch:=omega) only [RSe.down,t1,t2,t3,L.l2,p1,p2,iaddrS,hwn,e1,e2,e4,e5]
  refine WK_loopJ (fun i s => i <= l.gs.length /\ ∃ y5 h',s = ⟨[.ptr ic 0, .int .i64 (k:Int),v, .int .i64 (i:Int), .ptr (ids k) 0,y5],h'⟩ /\ ∃ lab' c' l1 r1,Done lab h n ic ids k c lab' h' c' /\ c'.drop k = l1 :: r1 /\ Reaching n G0 k l r p i l1 r1) l.gs.length
   ⟨Nat.zero_le _,_,h3,rfl,_,_,_,_,D1,drop_set (by rw [C.len]; exact hk),by rw [hcr]; exact Reaching.start hch hcl hp hf hg hw⟩ ?_
  rintro i hi1 _ ⟨hi2,y5,h',rfl,lab',c',l1,r1,D,hd1,R⟩ next
  obtain ⟨hck1,hcr1⟩:=cons_of_drop hd1
  obtain ⟨orb1,iw1,gsv1,cw1,cgs1,L2⟩:=D.ch.lv k l1 hck1
  have hlen:=(Own.at L2.gg).len (h':=h')
  have hgl:=L2.glen
  rw [R.gs] at hgl
  rw [hgl] at hlen
  obtain ⟨hv1,hm1⟩:=PmAt.done D hv hi
  by_cases hil:i < l.gs.length
  ·obtain ⟨g,hgi⟩:=get_some hil
   obtain ⟨vg,hvi⟩:=get_some (show i < cgs1.length by rw [hgl]; exact hil)
   obtain ⟨q1,q2⟩:=L2.gel i vg g hvi (by rw [R.gs]; exact hgi)
   obtain ⟨c1,c2,c3,c4⟩:=Reaching.call hch hp hf hg R hgi
   obtain ⟨v6,h6,f6,n6⟩:=bmul hN hv1 q1 hp c1 (by omega)
   have hog:=Reaching.orb_gt hch hp hf hg hw R
   have hon:=R.ok.2.1.orb_n hk
   have D6:=D.gro n6.gro
   obtain ⟨h7,lab7,c7,l7,r7,f7,D7,hd7,R7⟩:=ih (n - l1.orb.length) (by omega) lab' h6 c' l1 r1 v6 (mul p g) D6.ch hd1 R.ok R.cl c2 c3 c4 n6.at_ n6.isSl (n6.imm D.ch.new) (Nat.le_refl _)
   have i1:=(Own.at L2.gg).iaddr (q := .i64) (k:=i) (by rw [hgl]; exact hil)
   have i2:=(Own.at L2.gg).load hvi
   simp (disch:=omega) only [RSe.down,L2.l3,hlen,lssT,i1,i2,f6,f7,iaddrS,add1N]
   exact next hil _ ⟨by omega,_,_,rfl,lab7,c7,l7,r7,D6.trans D7 (Nat.le_refl _),hd7,R.step hgi R7⟩
  ·obtain rfl:i = l.gs.length:=by omega
   simp (disch:=omega) only [RSe.down,L2.l3,hlen,lssF]
   exact ⟨(fun i hi => by cases hi),_,rfl,lab',c',l1,r1,rfl,D,hd1,R.finish hch hp hf hg hw⟩
 | some w =>
  obtain ⟨vw,hws,hsl,hpw,himm⟩:=L.word_some hw
  obtain ⟨w1,w2,w3,w4⟩:=hlo.word _ _ hw
  obtain ⟨v5,h5,f5,n5⟩:=binv hN hpw w1 (by omega)
  obtain ⟨v6,h6,f6,n6⟩:=bmul hN (hv.gro n5.gro) n5.at_ hp w1.inv (by omega)
  have C6:=C.gro (n5.gro.trans n6.gro)
  obtain ⟨v7,at_,h7,f7,g7,hat,hiff⟩:=sift_spec hN C6 hn (j:=k + 1) (by omega) (by rw [hcr]; exact hch.2.2.2) n6.at_ (hp.mul w1.inv)
  have C7:=C6.gro g7
  rw [hcr] at hiff
  have D7:=(Done.start (k:=k) C).gro (n5.gro.trans (n6.gro.trans g7))
  simp (disch:=omega) only [RSe.down,t1,t2,t3,L.l2,p1,p2,iaddrS,hws,hsl.eq,f5,f6,add1N,f7,C7.deg]
  by_cases ea:at_ = n
  ·rw [ea]
   simp (disch:=omega) only [RSe.down,lssF]
   exact ⟨(fun i hi => by cases hi),_,rfl,lab,c,l,r,rfl,D7,hd,Reached.there hch hcl hw (hiff.1 ea)⟩
  ·have hk1 : k + 1 < n := by
    refine Nat.lt_of_not_le fun hle => ea (hiff.2 ?_)
    have:r = []:=by rw [<- hcr]; exact List.drop_eq_nil_of_le (by rw [C.len]; omega)
    rw [this]; trivial
   obtain ⟨l2,hl2⟩:=get_some (show k + 1 < c.length by rw [C.len]; exact hk1)
   have hd2:=drop_cons hl2
   have hr2:r = l2 :: c.drop (k + 1 + 1):=by rw [<- hcr]; exact hd2
   obtain ⟨z1,_⟩:=Reached.rest hch hp hf hg hw (fun hh => ea (hiff.2 hh)) hG
   have hch2:=hch.2.2.2
   have hcl2:=hcl
   rw [hr2] at hch2 hcl2 z1
   obtain ⟨h8,lab8,c8,l8,r8,f8,D8,hd8,I8⟩:=hins hk1 lab h7 c l2 (c.drop (k + 1 + 1)) v6 (mul p (inv w)) C7 hd2 hch2 hcl2 z1 (n6.at_.gro g7) (n6.imm fun j hj => C.new j (Nat.le_trans n5.gro.le hj))
   simp (disch:=omega) only [RSe.down,lssT,add1N,f8]
   obtain ⟨hck8,hcr8⟩:=cons_of_drop hd8
   have hd9:c8.drop k = l :: l8 :: r8:=by
    have e:=congrArg (fun x => x[k]?) D8.take
    simp only [List.getElem?_take,Nat.lt_succ_self,if_true] at e
    rw [drop_cons (e.trans hck),hd8]
   exact ⟨(fun i hi => by cases hi),_,rfl,lab8,c8,l,l8 :: r8,rfl,D7.trans D8 (Nat.le_succ k),hd9,Reached.insert hch hp hf hg hw hr2 I8⟩
omit hG in
theorem insert_ok {k:Nat} (hk:k < n) (hreach:∀ u,ReachOK I n G0 ic ids k u):InsertOK I n G0 ic ids k:=by
 intro lab h c l r v g C hd hch hcl hins hv hi
 have key:=lim_walk_ex (T:=otab.get) (I:=I) (f:=226) (fn:=of226) rfl (a:=[.ptr ic 0, .int .i64 (k:Int),v]) (h:=h)
  (P:=fun a h' => ∃ lab' c' l' r',a = .tup [] /\ Done lab h n ic ids k c lab' h' c' /\ c'.drop k = l' :: r' /\ Inserted n G0 k l r g l' r') (hN.at _ _ (by decide) (by decide) (by decide)) ?_
 ·obtain ⟨a,h',e,lab',c',l',r',rfl,q⟩:=key; exact ⟨h',lab',c',l',r',e,q⟩
 show WK _ _ [] ⟨[.ptr ic 0, .int .i64 (k:Int),v,aundef,aundef,aundef,aundef,aundef,aundef],h⟩ _
 dsimp only [of226,Z.t,Z.f,Z.i,Z.q,Z.m,Z.l,Z.b,Z.c,Z.w]
 obtain ⟨hck,hcr⟩:=cons_of_drop hd
 have hlo:=hch.2.1
 have hgs:=LvOK.gs_len hlo hA
 have horb:=hlo.orb_n hk
 obtain ⟨lv,t1,t2,t3,l0,hl0,orb,iw,gsv,cw,cg,L⟩:=C.at hk
 rw [hck] at hl0; cases hl0
 obtain ⟨h2,h3,b',e1,e2,e3,cg1,hnx,L1⟩:=L.addg hv hi (by omega)
 have hlab:∀ j,j < h.next -> (fun j => if j = h.next + 1 then 4 * k + 4 else lab j) j = lab j:=fun j hj => if_neg (by omega)
 have D1:Done lab h n ic ids k c (fun j => if j = h.next + 1 then 4 * k + 4 else lab j) h3 (c.set k (addGen l g)) :=
  ⟨C.upd cg1 hlab (fun j hj => by rw [hnx] at hj; exact (if_neg (by omega)).trans (C.new j (by omega))) L1,take_set,cg1.mono fun j _ hj => lvO_F hj,hlab⟩
 have hold:l.orb ≠ []:=by
  intro e
  have:=(hlo.orb k).2 ⟨_,hlo.base⟩
  rw [e] at this; cases this
 have D1C:=D1.ch
 obtain ⟨vo,h4,f4,o4,g4,w4⟩:=clone_fn (I:=I) (f:=228) rfl (fun _ _ => hN.at _ _ (by decide) (by decide) (by decide)) (p:=l.orb) (va:=orb) (h:=h3) (Own.at L1.oo) (by omega)
 obtain ⟨jo,cao,hvo,hjo⟩:=w4 hold
 have D4:=D1.gro g4
 have hmo:Imm (fun j => if j = h.next + 1 then 4 * k + 4 else lab j) vo:=fun j hj => D1C.new j (by rw [hvo] at hj; cases hj; exact hjo)
 have hlenV:=o4.len (h':=h4)
 have el1:loadV none (.ptr (ids k) 1) h3 = some orb:=L1.l1
 simp (disch:=omega) only [RSe.down,t1,t2,t3,L.l3,e1,e2,e3,el1,f4,hlenV]
 refine WK_loopJ (fun i s => i <= l.orb.length /\ ∃ y4 y5 h',s = ⟨[.ptr ic 0, .int .i64 (k:Int),v, .int .i64 (i:Int),y4,y5, .ptr (ids k) 0,vo, .int .i64 (l.orb.length:Int)],h'⟩ /\ ∃ lab' c' l1 r1,Done _ h4 n ic ids k (c.set k (addGen l g)) lab' h' c' /\ c'.drop k = l1 :: r1 /\ Inserting n G0 k l r g i l1 r1) l.orb.length
  ⟨Nat.zero_le _,_,_,h4,rfl,_,_,_,_,Done.start D4.ch,drop_set (by rw [C.len]; exact hk),by rw [hcr]; exact Inserting.start hch hcl hins⟩ ?_
 rintro i hi1 _ ⟨hi2,y4,y5,h',rfl,lab',c',l1,r1,D,hd1,R⟩ next
 obtain ⟨hck1,hcr1⟩:=cons_of_drop hd1
 obtain ⟨orb1,iw1,gsv1,cw1,cgs1,L2⟩:=D.ch.lv k l1 hck1
 have E:=D4.trans D (Nat.le_refl _)
 obtain ⟨hv1,hm1⟩:=PmAt.done E hv hi
 obtain ⟨ho1,_⟩:=PmAt.done D o4 hmo
 by_cases hil:i < l.orb.length
 ·obtain ⟨x,hxi⟩:=get_some hil
  have hxl:x < n:=hlo.orb_lt hk (List.mem_of_getElem? hxi)
  obtain ⟨w,hw⟩:=(hlo.orb x).1 (List.mem_of_getElem? hxi)
  obtain ⟨c0,c1,c2,c3,c4⟩:=Inserting.call hch hins.pv hins.fx R hw
  obtain ⟨vw,hws,hsl,hpw,himm⟩:=L2.word_some c0
  obtain ⟨v6,h6,f6,n6⟩:=bmul hN hpw hv1 c1 hins.pv (by omega)
  have hon:=R.ok.2.1.orb_n hk
  have D6:=D.gro n6.gro
  obtain ⟨h7,lab7,c7,l7,r7,f7,D7,hd7,R7⟩:=hreach (n - l1.orb.length) lab' h6 c' l1 r1 v6 (mul w g) D6.ch hd1 R.ok R.cl c2 c3 c4 n6.at_ n6.isSl (n6.imm D.ch.new) (Nat.le_refl _)
  have i1:=ho1.iaddr (q := .i64) (k:=i) hil
  have i2:=ho1.load (k:=i) hil
  have hap:ap l.orb i = x:=by unfold ap; simp [hxi]
  rw [hap] at i2
  simp (disch:=omega) only [RSe.down,L2.l2,lssT,i1,i2,f6,f7,iaddrS,add1N,hws]
  exact next hil _ ⟨by omega,_,_,_,rfl,lab7,c7,l7,r7,D6.trans D7 (Nat.le_refl _),hd7,R.step hxi hw R7⟩
 ·obtain rfl:i = l.orb.length:=by omega
  simp (disch:=omega) only [RSe.down,lssF]
  exact ⟨(fun i hi => by cases hi),_,rfl,lab',c',l1,r1,rfl,E,hd1,R.finish hch hcl⟩
theorem both_ok:∀ m k,k + m = n -> k < n -> (∀ u,ReachOK I n G0 ic ids k u) /\ InsertOK I n G0 ic ids k:=by
 intro m
 induction m with
 | zero => intro k e hk; omega
 | succ m ih =>
  intro k e hk
  have hr:∀ u,ReachOK I n G0 ic ids k u:=reach_ok hN hn hG hA hk fun hk1 => (ih (k + 1) (by omega) hk1).2
  exact ⟨hr,insert_ok hN hn hA hk hr⟩
theorem insert_spec {k:Nat} (hk:k < n):InsertOK I n G0 ic ids k:=(both_ok hN hn hG hA (n - k) k (by omega) hk).2
end
end Go.AM
namespace Go.AM
open Go Go.GT
theorem SlAt.drop {h:AHeap} {v:AV} {c:List AV} (s:SlAt h v c) {k:Nat} (hk:k <= c.length):∃ v',sl 1 v (some (k:Int)) none none = some v' /\ SlAt h v' (c.drop k):=by
 rcases s with ⟨rfl,rfl⟩ | ⟨i,o,cap,full,rfl,h2,h3,h5⟩
 ·have:k = 0:=by simpa using hk
  subst this
  exact ⟨.nils,rfl, .inl ⟨rfl,rfl⟩⟩
 ·have hl:(c.drop k).length = c.length - k:=by simp
  have hcut:c.drop k ≠ [] -> cellsOf h i = some full /\ cut full (o + k) (c.length - k) = some (c.drop k):=fun hne => by
   have hc:c ≠ []:=fun e => hne (by rw [e]; simp)
   obtain ⟨e1,e2⟩:=h3 hc
   obtain ⟨q1,q2⟩:=cut_eq e2
   refine ⟨e1,?_⟩
   rw [cut_some (by omega)]
   conv => rhs; rw [q2]
   rw [List.drop_take,List.drop_drop]
  cases cap with
  | exact m =>
   have h5':c.length <= m:=h5
   have hb:bounds c.length m (some (k:Int)) none none = some (k,c.length,m):=by
    unfold bounds
    simp only [Int.toNat_natCast]
    rw [if_pos ⟨by omega,by omega⟩]
   refine ⟨.slice i (if m = k then o else o + k * 1) (c.length - k) (.exact (m - k)),?_, .inr ⟨i,_, .exact (m - k),full,by rw [hl],h2,fun hne => ?_,by rw [hl]; show c.length - k <= m - k; omega⟩⟩
   ·show (match bounds c.length m (some (k:Int)) none none with | some (l,h,m) => some (AV.slice i (if m = l then o else o + l * 1) (h - l) (.exact (m - l))) | none => none) = _
    rw [hb]
   ·have hk2:m ≠ k:=fun e => hne (List.drop_eq_nil_of_le (by omega))
    rw [if_neg hk2,Nat.mul_one,hl]; exact hcut hne
  | opn sz =>
   have h5':sz = 1:=h5
   subst h5'
   have hb:bounds c.length c.length (some (k:Int)) none none = some (k,c.length,c.length):=by
    unfold bounds
    simp only [Int.toNat_natCast]
    rw [if_pos ⟨by omega,by omega⟩]
   refine ⟨.slice i (o + k * 1) (c.length - k) (.opn 1),?_, .inr ⟨i,_, .opn 1,full,by rw [hl],h2,fun hne => by rw [hl,Nat.mul_one]; exact hcut hne,rfl⟩⟩
   show (if 1 = 1 then (match bounds c.length c.length (some (k:Int)) none none with | some (l,h,_) => some (AV.slice i (o + l * 1) (h - l) (.opn 1)) | none => none) else none) = _
   rw [if_pos rfl,hb]
theorem evalQ_sliceLo {sz:Nat} {x:AOpd} {lo:AOpd} {tm:List AV} {h:AHeap} {k:IntKind} {n:Int} (e:ev tm lo = .int k n):evalQ (.slice sz x (some lo) none none) tm h = sl sz (ev tm x) (some n) none none:=by
 have:optInt tm (some lo) = some (some n):=by
  show (match ev tm lo with | .int _ n => some (some n) | _ => none) = _
  rw [e]
 rw [evalQ_sliceV,this]; rfl
theorem ordC_pos {n:Nat} {G0:List Pm}:∀ {ls:List Lv} {k:Nat},ChOK n G0 k ls -> 0 < ordC ls
 | [],_,_ => Nat.one_pos
 | l :: r,k,h => by
  obtain ⟨_,hl,_,hr⟩:=h
  have h1:=List.length_pos_of_mem ((hl.orb k).2 ⟨_,hl.base⟩)
  exact Nat.mul_pos h1 (ordC_pos hr)
theorem ordC_le {n:Nat} {G0:List Pm} (hG:∀ s ∈ G0,PV n s) {ls:List Lv} {k b:Nat} (hk:ChOK n G0 k ls) (hc:Cl k ls) (hA:Bnd n G0 b):ordC ls <= b:=by
 obtain ⟨A,h1,h2⟩:=hA
 rw [<- length_els (ls:=ls) (k:=k) (u:=one n)]
 refine Nat.le_trans (nodup_le (asc_els hk (PV.one n)).nodup fun q hq => h1 q ?_) h2
 obtain ⟨s,s1,s2,s3,rfl⟩:=(mem_els hk (PV.one n)).1 hq
 rw [s1.mul_one]
 exact ((complete hk hc s1 s2).1 s3).mono hG fun g hg => (hk.hg g hg).2.2
theorem ChOK.drop {n:Nat} {G0:List Pm}:∀ (m:Nat) {ls:List Lv} {k:Nat},ChOK n G0 k ls -> Cl k ls -> m <= ls.length -> ChOK n G0 (k + m) (ls.drop m) /\ Cl (k + m) (ls.drop m)
 | 0,_,_,h,c,_ => ⟨h,c⟩
 | m + 1, [],_,_,_,hm => absurd hm (Nat.not_succ_le_zero _)
 | m + 1,l :: r,k,h,c,hm => by
  have:=ChOK.drop m h.2.2.2 c.2 (Nat.le_of_succ_le_succ hm)
  rw [show k + (m + 1) = k + 1 + m by omega]; exact this
structure Chain (n:Nat) (G0 A:List Pm) (lab:Nat -> Nat) (h:AHeap) (ic:Nat) (ids:Nat -> Nat) (c:List Lv):Prop where
 at_:ChAt lab h n ic ids c
 ok:ChOK n G0 0 c
 cl:Cl 0 c
 gen:∀ p,Gen n (hg c) p ↔ Gen n A p
theorem Chain.gro {n:Nat} {G0 A:List Pm} {lab:Nat -> Nat} {h h':AHeap} {ic:Nat} {ids:Nat -> Nat} {c:List Lv} (C:Chain n G0 A lab h ic ids c) (g:Gro h h'):Chain n G0 A lab h' ic ids c:=⟨C.at_.gro g,C.ok,C.cl,C.gen⟩
theorem Chain.iff {n:Nat} {G0 A:List Pm} {lab:Nat -> Nat} {h:AHeap} {ic:Nat} {ids:Nat -> Nat} {c:List Lv} (C:Chain n G0 A lab h ic ids c) {p:Pm} (hp:PV n p):InS c 0 p ↔ Gen n A p:=by
 rw [complete C.ok C.cl hp Fx.zero,C.gen]
theorem hg_drop {c:List Lv}:c.drop 0 = c:=rfl
section
variable {I:Oracle} (hN:NoI I) {n:Nat} {G0 A:List Pm} {lab:Nat -> Nat} {h:AHeap} {ic:Nat} {ids:Nat -> Nat} {c:List Lv}
include hN
theorem ccontains_spec (C : Chain n G0 A lab h ic ids c) (hn : n <= 20) {v : AV} {p : Pm} (hv : PmAt h v p) (hp : PV n p) :
  ∃ b h',lim otab.get I (.fn 120) [.ptr ic 0,v] h = some (.bool b,h') /\ Gro h h' /\ (b = true ↔ Gen n A p):=by
 obtain ⟨v',at_,h',e,g,_,hi⟩:=sift_spec hN C.at_ hn (j:=0) (Nat.zero_le _) C.ok hv hp
 have C':=C.at_.gro g
 have e':lim otab.get I (.fn 190) [.ptr ic 0,v, .int .i64 0] h = some (.tup [v', .int .i64 ((at_:Nat):Int)],h'):=e
 refine lim_walk_ex (T:=otab.get) (I:=I) (f:=120) (fn:=of120) rfl (a:=[.ptr ic 0,v]) (h:=h) (P:=fun a h' => ∃ b,a = .bool b /\ Gro h h' /\ (b = true ↔ Gen n A p)) (hN.at _ _ (by decide) (by decide) (by decide)) ?_ |> fun ⟨a,h',e,b,q1,q2⟩ => ⟨b,h',by rw [e,q1],q2⟩
 show WK _ _ [] ⟨[.ptr ic 0,v,aundef],h⟩ _
 dsimp only [of120,Z.t,Z.f,Z.i,Z.q,Z.m,Z.l,Z.b,Z.c,Z.w]
 simp only [RSe.down,e',C'.deg]
 rw [hg_drop,C.iff hp] at hi
 by_cases ea:at_ = n
 ·simp only [eqlT (show ((at_:Nat):Int) = n by rw [ea]),RSe.down]
  exact ⟨(fun i hi => by cases hi),_,rfl,_,rfl,g,⟨fun _ => hi.1 ea,fun _ => rfl⟩⟩
 ·simp only [eqlF (show ((at_:Nat):Int) ≠ n from fun e => ea (by omega)),RSe.down]
  exact ⟨(fun i hi => by cases hi),_,rfl,_,rfl,g,⟨fun e => absurd e Bool.false_ne_true,fun e => absurd (hi.2 e) ea⟩⟩
theorem below_spec (C : ChAt lab h n ic ids c) (hn : n <= 20) (ho : ChOK n G0 0 c) (hc : Cl 0 c) (hG : ∀ s ∈ G0, PV n s) (hA : Bnd n G0 5040) {k : Nat} (hk : k <= n) :
  lim otab.get I (.fn 189) [.ptr ic 0, .int .i64 (k:Int)] h = some (.int .i64 ((ordC (c.drop k):Nat):Int),h):=by
 refine lim_walk (T:=otab.get) (I:=I) (f:=189) (fn:=of189) rfl (hN.at _ _ (by decide) (by decide) (by decide)) ?_
 show WK _ _ [] ⟨[.ptr ic 0, .int .i64 (k:Int),aundef,aundef,aundef],h⟩ _
 dsimp only [of189,Z.t,Z.f,Z.i,Z.q,Z.m,Z.l,Z.b,Z.c,Z.w]
 obtain ⟨lv,cl,a1,a2,a3,a4,a5,a6,a7,a8⟩:=C.top
 obtain ⟨lv2,b1,b2⟩:=a5.drop (k:=k) (by omega)
 have hlen:=b2.len (h':=h)
 rw [List.length_drop,a7] at hlen
 have hD:∀ m,m <= n -> ChOK n G0 m (c.drop m) /\ Cl m (c.drop m):=fun m hm => by
  have:=ChOK.drop m ho hc (by rw [C.len]; exact hm)
  rw [Nat.zero_add] at this; exact this
 have hle:=ordC_le hG (hD k hk).1 (hD k hk).2 hA
 simp only [RSe.down,a1,evalQ_sliceLo (show ev [lv, .int .i64 (k:Int), .int .i64 1,aundef,aundef] (.tmp 1) = .int .i64 (k:Int) from rfl),b1,hlen]
 refine WK_loopJ (fun r s => r <= n - k /\ ∃ acc:Nat,(∃ y1,s = ⟨[.int .i64 (r:Int),y1, .int .i64 (acc:Int),lv2, .int .i64 ((n - k:Nat):Int)],h⟩) /\ acc * ordC (c.drop (k + r)) = ordC (c.drop k)) (n - k) ⟨Nat.zero_le _,1,⟨_,rfl⟩,Nat.one_mul _⟩ ?_
 rintro r hr _ ⟨_,acc,⟨y1,rfl⟩,hacc⟩ next
 by_cases hrn:r < n - k
 ·obtain ⟨l,hl⟩:=get_some (show k + r < c.length by rw [C.len]; omega)
  obtain ⟨orb,iw,gsv,cw,cg,L⟩:=C.lv _ l hl
  have i1:=b2.iaddr (q := .i64) (k:=r) (by rw [List.length_drop,a7]; exact hrn)
  have i2:=b2.load (k:=r) (x := .ptr (ids (k + r)) 0) (by rw [List.getElem?_drop]; exact a8 _ (by omega))
  have ol:=(Own.at L.oo).len (h':=h)
  rw [pc_len] at ol
  rw [drop_cons hl] at hacc
  have hacc2:acc * l.orb.length * ordC (c.drop (k + r + 1)) = ordC (c.drop k):=by rw [Nat.mul_assoc]; exact hacc
  have hpos:=ordC_pos (hD (k + r + 1) (by omega)).1
  have hb:acc * l.orb.length <= ordC (c.drop k):=by rw [<- hacc2]; exact Nat.le_mul_of_pos_right _ hpos
  simp (disch:=omega) only [RSe.down,lssT,i1,i2,L.l1,ol,mulN,add1N]
  exact next hrn _ ⟨by omega,_,⟨_,rfl⟩,hacc2⟩
 ·obtain rfl:r = n - k:=by omega
  rw [show k + (n - k) = n by omega,List.drop_eq_nil_of_le (show c.length <= n by rw [C.len]; exact Nat.le_refl _)] at hacc
  have he:acc = ordC (c.drop k):=by rw [<- hacc]; exact (Nat.mul_one _).symm
  simp (disch:=omega) only [RSe.down,lssF]
  exact ⟨(fun i hi => by cases hi),by rw [he]; rfl,trivial⟩
theorem corder_spec (C : Chain n G0 A lab h ic ids c) (hn : n <= 20) (hG : ∀ s ∈ G0, PV n s) (hA : Bnd n G0 5040) :
  lim otab.get I (.fn 118) [.ptr ic 0] h = some (.int .i64 ((ordC c:Nat):Int),h):=by
 have e:lim otab.get I (.fn 189) [.ptr ic 0, .int .i64 0] h = some (.int .i64 ((ordC c:Nat):Int),h):=below_spec hN C.at_ hn C.ok C.cl hG hA (Nat.zero_le _)
 refine lim_walk (T:=otab.get) (I:=I) (f:=118) (fn:=of118) rfl (hN.at _ _ (by decide) (by decide) (by decide)) ?_
 show WK _ _ [] ⟨[.ptr ic 0,aundef],h⟩ _
 dsimp only [of118,Z.t,Z.f,Z.i,Z.q,Z.m,Z.l,Z.b,Z.c,Z.w]
 simp only [RSe.down,e]
 exact ⟨(fun i hi => by cases hi),rfl,trivial⟩
theorem cadd_spec (C : Chain n G0 A lab h ic ids c) (hn : n <= 20) (hG : ∀ s ∈ G0, PV n s) (hB : Bnd n G0 5040) (hAv : ∀ s ∈ A, PV n s) {v : AV} {g : Pm} (hv : PmAt h v g) (hi : Imm lab v) (hg : g ∈ G0) :
  ∃ h' lab' c',lim otab.get I (.fn 187) [.ptr ic 0,v] h = some (.tup [],h') /\ Chain n G0 (A ++ [g]) lab' h' ic ids c' /\ Chg (fun j => lab j ≠ 0) h h' /\ ∀ j,j < h.next -> lab' j = lab j:=by
 have hgp:=hG g hg
 have hApv:∀ s ∈ A ++ [g],PV n s:=fun s hs => by
  rcases List.mem_append.1 hs with q | q
  ·exact hAv s q
  ·rw [List.mem_singleton.1 q]; exact hgp
 refine (lim_walk_ex (T:=otab.get) (I:=I) (f:=187) (fn:=of187) rfl (a:=[.ptr ic 0,v]) (h:=h) (P:=fun a h' => ∃ lab' c',a = .tup [] /\ Chain n G0 (A ++ [g]) lab' h' ic ids c' /\ Chg (fun j => lab j ≠ 0) h h' /\ ∀ j,j < h.next -> lab' j = lab j) (hN.at _ _ (by decide) (by decide) (by decide)) ?_) |> fun ⟨a,h',e,lab',c',q1,q2⟩ => ⟨h',lab',c',by rw [e,q1],q2⟩
 show WK _ _ [] ⟨[.ptr ic 0,v,aundef,aundef,aundef],h⟩ _
 dsimp only [of187,Z.t,Z.f,Z.i,Z.q,Z.m,Z.l,Z.b,Z.c,Z.w]
 have hin:Gen n A g -> ∀ p,Gen n A p ↔ Gen n (A ++ [g]) p:=fun hm p => ⟨fun hp => hp.mono hApv fun s hs => Gen.of hApv (List.mem_append.2 (.inl hs)),fun hp => hp.mono hAv fun s hs => by
  rcases List.mem_append.1 hs with q | q
  ·exact Gen.of hAv q
  ·rw [List.mem_singleton.1 q]; exact hm⟩
 by_cases hn0:0 < n
 ·obtain ⟨b,h1,e1,g1,hb⟩:=ccontains_spec hN C hn hv hgp
  have C1:=C.gro g1
  cases b with
  | true =>
   simp (disch:=omega) only [RSe.down,C.at_.deg,gtrT,e1,not_bool,Bool.not_true]
   refine ⟨(fun i hi => by cases hi),_,rfl,lab,c,rfl,⟨C1.at_,C1.ok,C1.cl,fun p => ?_⟩,g1.chg,fun _ _ => rfl⟩
   rw [C1.gen,hin (hb.1 rfl)]
  | false =>
   obtain ⟨l,hl⟩:=get_some (show 0 < c.length by rw [C.at_.len]; exact hn0)
   have hd:c = l :: c.drop 1:=drop_cons (k:=0) hl
   have hins:Insertable n G0 0 (l :: c.drop 1) g:=⟨hgp,Fx.zero,Gen.of hG hg,fun hs => by
    rw [<- hd,C.iff hgp] at hs
    exact Bool.false_ne_true (hb.2 hs)⟩
   obtain ⟨h2,lab2,c2,l2,r2,e2,D2,hd2,I2⟩:=insert_spec hN hn hG hB (k:=0) hn0 lab h1 c l (c.drop 1) v g C1.at_ hd (by rw [<- hd]; exact C.ok) (by rw [<- hd]; exact C.cl) hins (hv.gro g1) hi
   have e2':lim otab.get I (.fn 226) [.ptr ic 0, .int .i64 0,v] h1 = some (.tup [],h2):=e2
   simp (disch:=omega) only [RSe.down,C.at_.deg,gtrT,e1,not_bool,Bool.not_false,e2']
   have hc2:c2 = l2 :: r2:=hd2
   refine ⟨(fun i hi => by cases hi),_,rfl,lab2,c2,rfl,⟨D2.ch,by rw [hc2]; exact I2.ok,by rw [hc2]; exact I2.cl,fun p => ?_⟩,g1.chg.trans D2.chg fun j _ hj => hj.1,fun j hj => D2.lab j (Nat.lt_of_lt_of_le hj g1.le)⟩
   have hgen:∀ p,Gen n l.gs p ↔ Gen n A p:=fun p => by
    have:=C.gen p; rw [hd] at this; exact this
   have hlp:∀ s ∈ l.gs,PV n s:=by
    have:=C.ok; rw [hd] at this; exact this.2.1.pvs
   have hl2p:∀ s ∈ l.gs ++ [g],PV n s:=fun s hs => by
    rcases List.mem_append.1 hs with q | q
    ·exact hlp s q
    ·rw [List.mem_singleton.1 q]; exact hgp
   rw [hc2]
   show Gen n l2.gs p ↔ _
   rw [I2.gs]
   refine ⟨fun hp => hp.mono hApv fun s hs => ?_,fun hp => hp.mono hl2p fun s hs => ?_⟩
   ·rcases List.mem_append.1 hs with q | q
    ·exact ((hgen s).1 (Gen.of hlp q)).mono hApv fun t ht => Gen.of hApv (List.mem_append.2 (.inl ht))
    ·exact Gen.of hApv (List.mem_append.2 (.inr q))
   ·rcases List.mem_append.1 hs with q | q
    ·exact ((hgen s).2 (Gen.of hAv q)).mono hl2p fun t ht => Gen.of hl2p (List.mem_append.2 (.inl ht))
    ·exact Gen.of hl2p (List.mem_append.2 (.inr q))
 ·obtain rfl:n = 0:=by omega
  have hd:loadV none (.ptr ic 0) h = some (.int .i64 0):=C.at_.deg
  simp (disch:=omega) only [RSe.down,hd,gtrF]
  refine ⟨(fun i hi => by cases hi),_,rfl,lab,c,rfl,⟨C.at_,C.ok,C.cl,fun p => ?_⟩,Chg.refl _,fun _ _ => rfl⟩
  have hg0:g = one 0:=hgp.ext (PV.one 0) fun i hi => absurd hi (Nat.not_lt_zero _)
  rw [C.gen,hin (by rw [hg0]; exact Gen.one)]
end
end Go.AM
namespace Go.AM
open Go Go.GT
structure Making (n:Nat) (h0 h:AHeap) (ic i:Nat) (lab ids:Nat -> Nat) (lv:AV) (cl:List AV):Prop where
 gro:Gro h0 h
 ge:h0.next <= ic
 new:∀ j,h.next <= j -> lab j = 0
 old:∀ j,j < h0.next -> lab j = 0
 get:h.get ic = some (.cells [.int .i64 (n:Int),lv] true)
 lt:ic < h.next
 lic:lab ic = 4 * n + 1
 own:Own 1 h lv i cl
 imm:∀ j,oid lv = some j -> lab j = 4 * n + 1
 ne:oid lv ≠ some ic
 lge:∀ j,oid lv = some j -> h0.next <= j
 ptr:∀ k,k < i -> cl[k]? = some (.ptr (ids k) 0)
 lvs:∀ k,k < i -> ∃ orb iw gsv cw cg,LvAt lab h n k (ids k) (lv0 n k) orb iw gsv cw cg
def labN (lab:Nat -> Nat) (n i N b:Nat):Nat -> Nat:=fun j => if j = N then 4 * i + 2 else if j = N + 1 then 4 * i + 3 else if j = N + 2 then 4 * i + 1 else if j = b then 4 * n + 1 else lab j
theorem Making.step {n : Nat} {h0 h : AHeap} {ic i : Nat} {lab ids : Nat -> Nat} {lv : AV} {cl : List AV} (M : Making n h0 h ic i lab ids lv cl) (hi : i < n) (hn : n <= 20) {hd : AHeap} {v6 : AV}
  (n6:NewPm (((h.push (.cells [.int .i64 (i:Int)] true)).push (.cells (repl n [.nils]) true)).push (.cells [.int .i64 (i:Int), .slice h.next 0 1 (.exact 1), .slice (h.next + 1) 0 n (.exact n), .nils] true)) hd v6 (one n)) :
  ∃ he hg hh b',stV 1 (.ptr (h.next + 1) i) v6 hd = some (aundef,he) /\ loadV none (.ptr (h.next + 2) 2) hd = some (.slice (h.next + 1) 0 n (.exact n)) /\ loadV none (.ptr ic 1) he = some lv /\
   appV 1 8 lv (.slice he.next 0 1 (.exact 1)) (he.push (.cells [.ptr (h.next + 2) 0] true)) = some (b',hg) /\ stV 1 (.ptr ic 1) b' hg = some (aundef,hh) /\
   ∃ lab' ids',Making n h0 hh ic (i + 1) lab' ids' b' (cl ++ [.ptr (h.next + 2) 0]):=by
 have hw0:∀ o:AObj,((h.push (.cells [.int .i64 (i:Int)] true)).push (.cells (repl n [.nils]) true)).next = h.next + 2:=fun _ => rfl
 have hcn:(((h.push (.cells [.int .i64 (i:Int)] true)).push (.cells (repl n [.nils]) true)).push (.cells [.int .i64 (i:Int), .slice h.next 0 1 (.exact 1), .slice (h.next + 1) 0 n (.exact n), .nils] true)).next = h.next + 3:=rfl
 have hge:=n6.gro.le
 rw [hcn] at hge
 have q0:hd.get h.next = some (.cells [.int .i64 (i:Int)] true):=by
  rw [n6.gro.same _ (by rw [hcn]; omega),AHeap.get_push_lt _ _ (show h.next < h.next + 2 by omega),AHeap.get_push_lt _ _ (show h.next < h.next + 1 by omega),AHeap.get_push_same]
 have q1:hd.get (h.next + 1) = some (.cells (repl n [.nils]) true):=by
  rw [n6.gro.same _ (by rw [hcn]; omega),AHeap.get_push_lt _ _ (show h.next + 1 < h.next + 2 by omega)]
  exact AHeap.get_push_same (h.push _) _
 have q2:hd.get (h.next + 2) = some (.cells [.int .i64 (i:Int), .slice h.next 0 1 (.exact 1), .slice (h.next + 1) 0 n (.exact n), .nils] true):=by
  rw [n6.gro.same _ (by rw [hcn]; omega)]
  exact AHeap.get_push_same ((h.push _).push _) _
 have gd:Gro h hd:=((Gro.push h _).trans ((Gro.push _ _).trans (Gro.push _ _))).trans n6.gro
 have hsc:v6.scalar = true:=SlAt.scalar n6.at_
 rw [tbl_repl] at q1
 have e1:=stV_tbl (k:=i) (x:=v6) q1 hi hsc
 have ge:Gro h (hd.set (h.next + 1) (.cells (tbl n fun j => if j = i then v6 else .nils) true)):=gd.set (by omega) _
 have oe:=M.own.gro ge
 obtain ⟨b',hg,e2,o2,c2,i2,x2⟩:=oe.app1 (bytes:=8) (c:=[.ptr (h.next + 2) 0]) rfl rfl (by decide) (by omega)
 rw [AHeap.next_set] at i2 x2
 have hlv:∀ j,oid lv = some j -> j < h.next:=fun j hj => M.own.lt hj
 have q3:hg.get ic = some (.cells [.int .i64 (n:Int),lv] true):=by
  rw [c2.same ic (Nat.lt_of_lt_of_le M.lt ge.le) M.ne,ge.same ic M.lt]; exact M.get
 have bs:b'.scalar = true:=SlAt.scalar (Own.at o2)
 have e3:stV 1 (.ptr ic 1) b' hg = some (aundef,hg.set ic (.cells [.int .i64 (n:Int),b'] true)):=stV_at (k:=1) (x:=b') q3 (by simp) bs
 have c3:Chg (fun j => j = ic) hg (hg.set ic (.cells [.int .i64 (n:Int),b'] true)):=Chg.set (F:=fun j => j = ic) hg rfl _
 have cc:Chg (fun j => oid lv = some j \/ j = ic) (hd.set (h.next + 1) (.cells (tbl n fun j => if j = i then v6 else .nils) true)) (hg.set ic (.cells [.int .i64 (n:Int),b'] true)) :=
  (c2.mono (G:=fun j => oid lv = some j \/ j = ic) fun j _ hj => .inl hj).trans c3 fun j _ hj => .inr hj
 have call:Chg (fun j => oid lv = some j \/ j = ic) h (hg.set ic (.cells [.int .i64 (n:Int),b'] true)):=(ge.chg (F:=fun j => oid lv = some j \/ j = ic)).trans cc fun j _ hj => hj
 have hnF:∀ j,h.next <= j -> ¬ (oid lv = some j \/ j = ic):=fun j hj hf => by
  rcases hf with hf | hf
  ·have:=hlv j hf; omega
  ·have:=M.lt; omega
 have fin:∀ j,h.next <= j -> j < hd.next -> j ≠ h.next + 1 -> (hg.set ic (.cells [.int .i64 (n:Int),b'] true)).get j = hd.get j:=fun j h1 h2 h3 => by
  rw [cc.same j (by rw [AHeap.next_set]; exact h2) (hnF j h1),AHeap.get_set_ne _ _ h3]
 have hnx:(hg.set ic (.cells [.int .i64 (n:Int),b'] true)).next = hd.next + 2:=by rw [AHeap.next_set,x2]
 have hl:∀ j,j < h.next -> labN lab n i h.next (hd.next + 1) j = lab j:=fun j hj => by
  unfold labN
  rw [if_neg (by omega),if_neg (by omega),if_neg (by omega),if_neg (by omega)]
 refine ⟨_,hg,hg.set ic (.cells [.int .i64 (n:Int),b'] true),b',e1,loadV_get q2 rfl,loadV_get (by rw [ge.same ic M.lt]; exact M.get) rfl,e2,e3,labN lab n i h.next (hd.next + 1),(fun k => if k = i then h.next + 2 else ids k),?_⟩
 refine ⟨M.gro.chg_new call fun j hj => ?_,M.ge,fun j hj => ?_,fun j hj => ?_,AHeap.get_set_same _ _ _,?_,(hl _ M.lt).trans M.lic,?_,fun j hj => ?_,?_,fun j hj => ?_,fun k hk => ?_,fun k hk => ?_⟩
 ·rcases hj with hj | hj
  ·exact M.lge j hj
  ·rw [hj]; exact M.ge
 ·rw [hnx] at hj
  have e:labN lab n i h.next (hd.next + 1) j = lab j:=by
   unfold labN
   rw [if_neg (by omega),if_neg (by omega),if_neg (by omega),if_neg (by omega)]
  rw [e]; exact M.new j (by omega)
 ·rw [hl j (Nat.lt_of_lt_of_le hj M.gro.le)]; exact M.old j hj
 ·rw [hnx]; have:=M.lt; omega
 ·exact o2.chg c3 fun j hj e => by rw [i2] at hj; cases hj; have:=M.lt; omega
 ·rw [i2] at hj; cases hj
  unfold labN
  rw [if_neg (by omega),if_neg (by omega),if_neg (by omega),if_pos rfl]
 ·rw [i2]; intro e; cases e; have:=M.lt; omega
 ·rw [i2] at hj; cases hj; have:=M.gro.le; omega
 ·by_cases ek:k = i
  ·rw [if_pos ek,ek,List.getElem?_append_right (by rw [M.own.length]; omega),M.own.length]; simp
  ·rw [if_neg ek,List.getElem?_append_left (by rw [M.own.length]; omega)]; exact M.ptr k (by omega)
 ·by_cases ek:k = i
  ·subst ek
   have hoid:∀ j,oid v6 = some j -> h.next + 3 <= j:=fun j hj => n6.fresh hj
   have hpm:PmAt (hg.set ic (.cells [.int .i64 (n:Int),b'] true)) v6 (one n):=by
    have c1:Chg (fun j => j = h.next + 1) hd (hd.set (h.next + 1) (.cells (tbl n fun j => if j = k then v6 else .nils) true)):=Chg.set (F:=fun j => j = h.next + 1) hd rfl _
    exact (n6.at_.chg c1 fun j hj e => by have:=hoid j hj; omega).chg cc fun j hj => hnF j (by have:=hoid j hj; omega)
   have himm:Imm (labN lab n k h.next (hd.next + 1)) v6:=fun j hj => by
    have h1:=hoid j hj
    have h2:=SlAt.oid_lt n6.at_ hj
    unfold labN
    rw [if_neg (by omega),if_neg (by omega),if_neg (by omega),if_neg (by omega)]
    exact M.new j (by omega)
   refine ⟨.slice h.next 0 1 (.exact 1),h.next + 1, .nils,tbl n fun j => if j = k then v6 else .nils, [],?_⟩
   rw [if_pos rfl]
   refine ⟨?_,?_,?_, .inr ⟨h.next, .exact 1,rfl, .inr rfl,rfl,?_,?_⟩,fun j hj => ?_,?_,?_,?_,tbl_len,fun x hx e => ?_,fun x p e => ?_,Own.nil,(fun j hj => by cases hj),rfl,fun i a p ha => by simp at ha⟩
   ·rw [fin _ (by omega) (by omega) (by omega)]; exact q2
   ·rw [hnx]; omega
   ·unfold labN; rw [if_neg (by omega),if_neg (by omega),if_pos rfl]
   ·rw [hnx]; omega
   ·rw [fin _ (by omega) (by omega) (by omega)]; exact q0
   ·cases hj; unfold labN; rw [if_pos rfl]
   ·rw [cc.same _ (by rw [AHeap.next_set]; omega) (hnF _ (by omega)),AHeap.get_set_same]
   ·rw [hnx]; omega
   ·unfold labN; rw [if_neg (by omega),if_pos rfl]
   ·rw [wat_lv0 hi] at e
    by_cases ex:x = k
    ·rw [if_pos ex] at e; cases e
    ·rw [tbl_get hx,if_neg ex]
   ·rw [wat_lv0 hi] at e
    by_cases ex:x = k
    ·rw [if_pos ex] at e; cases e
     subst ex
     exact ⟨hi,v6,by rw [tbl_get hi,if_pos rfl],n6.isSl,hpm,himm⟩
    ·rw [if_neg ex] at e; cases e
  ·obtain ⟨orb,iw,gsv,cw,cg,L⟩:=M.lvs k (by omega)
   refine ⟨orb,iw,gsv,cw,cg,?_⟩
   rw [if_neg ek]
   refine L.keep call (fun j hj => ?_) hl
   have hj2:lab j = 4 * n + 1:=by
    rcases hj with hj | hj
    ·exact M.imm j hj
    ·rw [hj]; exact M.lic
   rw [hj2]
   exact ⟨by omega,by omega⟩
theorem LvAt.relab {lab lab':Nat -> Nat} {h:AHeap} {n k id iw:Nat} {l:Lv} {orb gsv:AV} {cw cg:List AV} (L:LvAt lab h n k id l orb iw gsv cw cg) (hl:∀ j,lab' j = lab j \/ (lab' j = 0 /\ lab j ≠ 0 /\ (lab j - 1) / 4 ≠ k)):LvAt lab' h n k id l orb iw gsv cw cg:=by
 have h0:∀ j,lab j = 0 -> lab' j = 0:=fun j hj => (hl j).elim (fun e => e.trans hj) fun e => e.1
 have h1:∀ j m,1 <= m -> m <= 4 -> lab j = 4 * k + m -> lab' j = 4 * k + m:=fun j m m1 m2 hj => (hl j).elim (fun e => e.trans hj) fun e => absurd (by rw [hj]; omega) e.2.2
 exact ⟨L.get,L.lt,h1 _ 1 (by omega) (by omega) L.li,L.oo,fun j hj => h1 _ 2 (by omega) (by omega) (L.lo j hj),L.w,L.wlt,h1 _ 3 (by omega) (by omega) L.lw,L.wlen,L.wn,fun x p e => by
  obtain ⟨q1,v,q2,q3,q4,q5⟩:=L.ws x p e
  exact ⟨q1,v,q2,q3,q4,fun j hj => h0 j (q5 j hj)⟩,L.gg,fun j hj => h1 _ 4 (by omega) (by omega) (L.lg j hj),L.glen,fun i a p ha hp => ⟨(L.gel i a p ha hp).1,fun j hj => h0 j ((L.gel i a p ha hp).2 j hj)⟩⟩
theorem ch0_len (n:Nat):∀ k m:Nat,(ch0 n k m).length = m
 | _,0 => rfl
 | k,m + 1 => by
  have e:ch0 n k (m + 1) = lv0 n k :: ch0 n (k + 1) m:=rfl
  rw [e,List.length_cons,ch0_len n (k + 1) m]
theorem ch0_get' (n:Nat):∀ (m k i:Nat),i < m -> (ch0 n k m)[i]? = some (lv0 n (k + i))
 | 0,_,_,h => absurd h (Nat.not_lt_zero _)
 | m + 1,k,i,h => by
  have e:ch0 n k (m + 1) = lv0 n k :: ch0 n (k + 1) m:=rfl
  cases i with
  | zero => rw [e]; rfl
  | succ i => rw [e,List.getElem?_cons_succ,ch0_get' n m (k + 1) i (by omega),Nat.add_assoc,Nat.add_comm 1 i]
theorem ch0_get {n i:Nat} (h:i < n):(ch0 n 0 n)[i]? = some (lv0 n i):=by rw [ch0_get' n n 0 i h,Nat.zero_add]
theorem take_succ_get {α:Type} {S:List α} {i:Nat} {s:α} (h:S[i]? = some s):S.take (i + 1) = S.take i ++ [s]:=by
 rw [List.take_add_one,h]; rfl
theorem bldC {tm:List AV} {h:AHeap} {n:Int} {z0 z1:AV} {x:AOpd} (hx:ev tm x = .int .i64 n):evalQ (.build [z0,z1] [(0,(1,x))]) tm h = some (.agg [.int .i64 n,z1]):=by
 rw [evalQ_build]; simp only [fills,hx]; rfl
theorem bldP {tm:List AV} {h:AHeap} {n:Int} {z0 z1:AV} {x y:AOpd} {i o m:Nat} {c:ACap} (hx:ev tm x = .int .i64 n) (hy:ev tm y = .slice i o m c):evalQ (.build [z0,z1] [(0,(1,x)),(1,(1,y))]) tm h = some (.agg [.int .i64 n, .slice i o m c]):=by
 rw [evalQ_build]; simp only [fills,hx,hy]; rfl
theorem bldL {tm:List AV} {h:AHeap} {a b:AV} {z0 z1 z2 z3:AV} {x y:AOpd} {i o m:Nat} {c:ACap} (hx:ev tm x = .agg [a,b]) (hy:ev tm y = .slice i o m c):evalQ (.build [z0,z1,z2,z3] [(0,(2,x)),(2,(1,y))]) tm h = some (.agg [a,b, .slice i o m c,z3]):=by
 rw [evalQ_build]; simp only [fills,hx,hy]; rfl
section
variable {I:Oracle} (hN:NoI I) {h:AHeap}
include hN
theorem cnew_spec {n : Nat} (hn : n <= 20) {vS : AV} {S : List Pm} (hS : PmsAt h vS S) (hG : ∀ s ∈ S, PV n s) (hL : S.length <= 1000000) (hB : Bnd n S 5040) :
  ∃ ic h' lab ids c,lim otab.get I (.fn 186) [.int .i64 (n:Int),vS] h = some (.ptr ic 0,h') /\ Chain n S S lab h' ic ids c /\ Gro h h' /\ h.next <= ic:=by
 refine (lim_walk_ex (T:=otab.get) (I:=I) (f:=186) (fn:=of186) rfl (a:=[.int .i64 (n:Int),vS]) (h:=h) (P:=fun a h' => ∃ ic lab ids c,a = .ptr ic 0 /\ Chain n S S lab h' ic ids c /\ Gro h h' /\ h.next <= ic) (hN.at _ _ (by decide) (by decide) (by decide)) ?_) |> fun ⟨a,h',e,ic,lab,ids,c,q1,q2⟩ => ⟨ic,h',lab,ids,c,by rw [e,q1],q2⟩
 show WK _ _ [] ⟨[.int .i64 (n:Int),vS,aundef,aundef,aundef,aundef,aundef],h⟩ _
 dsimp only [of186,Z.t,Z.f,Z.i,Z.q,Z.m,Z.l,Z.b,Z.c,Z.w]
 simp only [RSe.down,bldC (show ev [.int .i64 (n:Int),vS, .nilp,aundef,aundef,aundef,aundef] (.tmp 0) = .int .i64 (n:Int) from rfl)]
 have m0:Making n h (h.push (.cells [.int .i64 (n:Int), .nils] true)) h.next 0 (fun j => if j = h.next then 4 * n + 1 else 0) (fun _ => 0) .nils [] :=
  ⟨Gro.push h _,Nat.le_refl _,fun j hj => if_neg (by rw [AHeap.next_push] at hj; omega),fun j hj => if_neg (by omega),AHeap.get_push_same h _,Nat.lt_succ_self _,if_pos rfl,Own.nil,(fun j hj => by cases hj),(fun e => by cases e),(fun j hj => by cases hj),fun k hk => absurd hk (Nat.not_lt_zero _),fun k hk => absurd hk (Nat.not_lt_zero _)⟩
 refine WK_loopJ (fun i s => i <= n /\ ∃ h' lab ids lv cl y4 y5 y6,s = ⟨[.int .i64 (n:Int),vS, .int .i64 (i:Int), .ptr h.next 0,y4,y5,y6],h'⟩ /\ Making n h h' h.next i lab ids lv cl) n
  ⟨Nat.zero_le _,_,_,_,_,_,_,_,_,rfl,m0⟩ ?_
 rintro i hi _ ⟨_,h',lab,ids,lv,cl,y4,y5,y6,rfl,M⟩ next
 by_cases hin:i < n
 ·simp (disch:=omega) only [RSe.down,lssT]
  rw [bldP (n:=(i:Int)) rfl rfl]
  simp (disch:=omega) only [RSe.down,mkslV_nat]
  rw [bldL (a := .int .i64 (i:Int)) rfl rfl]
  simp (disch:=omega) only [RSe.down]
  have ld:loadV none (.ptr (h'.next + 2) 2) (((h'.push (.cells [.int .i64 (i:Int)] true)).push (.cells (repl n [.nils]) true)).push (.cells [.int .i64 (i:Int), .slice h'.next 0 1 (.exact 1), .slice (h'.next + 1) 0 n (.exact n), .nils] true)) = some (.slice (h'.next + 1) 0 n (.exact n)) :=
   loadV_get (AHeap.get_push_same ((h'.push _).push _) _) rfl
  obtain ⟨v6,hd,f6,n6⟩:=bid hN (h:=(((h'.push (.cells [.int .i64 (i:Int)] true)).push (.cells (repl n [.nils]) true)).push (.cells [.int .i64 (i:Int), .slice h'.next 0 1 (.exact 1), .slice (h'.next + 1) 0 n (.exact n), .nils] true))) (n:=n) (by omega)
  obtain ⟨he,hg,hh,b',e1,e2,e3,e4,e5,lab',ids',M'⟩:=M.step hin hn n6
  simp (disch:=omega) only [RSe.down,AHeap.next_push,ld,f6,iaddrS,e1,WDV_succ,WDE_some,checks,lower,recheck,AOp.cls,AV.beq_refl,cond_true,true_and,e2,e3,e4,e5]
  exact next hin _ ⟨by omega,hh,lab',ids',b',_,_,_,_,rfl,M'⟩
 ·obtain rfl:n = i:=by omega
  simp (disch:=omega) only [RSe.down,lssF,hS.len]
  have hch:Chain n S [] (fun j => if lab j = 4 * n + 1 then 0 else lab j) h' h.next ids (ch0 n 0 n):=by
   obtain ⟨o1,o2,o3⟩:=ch0_ok (n:=n) (G0:=S) (m:=n) (k:=0) (by omega)
   refine ⟨⟨fun j hj => ?_,?_,⟨lv,cl,loadV_get M.get rfl,loadV_get M.get rfl,M.lt,if_pos M.lic,Own.at M.own,fun j hj => if_pos (M.imm j hj),by rw [M.own.length,Nat.mul_one],M.ptr⟩,fun k l hl => ?_⟩,o1,o2,fun p => by rw [o3]⟩
   ·rw [if_neg (by rw [M.new j hj]; omega)]; exact M.new j hj
   ·have:=ch0_len n 0 n; exact this
   ·have hk : k < n := by
     have:=(List.getElem?_eq_some_iff.1 hl).1
     rwa [ch0_len] at this
    rw [ch0_get hk] at hl
    cases hl
    obtain ⟨orb,iw,gsv,cw,cg,L⟩:=M.lvs k hk
    exact ⟨orb,iw,gsv,cw,cg,L.relab fun j => by
     by_cases e:lab j = 4 * n + 1
     ·exact .inr ⟨if_pos e,by rw [e]; omega,by rw [e]; omega⟩
     ·exact .inl (if_neg e)⟩
  refine WK_loopJ (fun i s => i <= S.length /\ ∃ h' lab c y2 y5 y6,s = ⟨[.int .i64 (i:Int),vS,y2, .ptr h.next 0, .int .i64 (S.length:Int),y5,y6],h'⟩ /\ Chain n S (S.take i) lab h' h.next ids c /\ Gro h h' /\ ∀ j,j < h.next -> lab j = 0) S.length
   ⟨Nat.zero_le _,_,_,_,_,_,_,rfl,hch,M.gro,fun j hj => ?_⟩ ?_
  ·rw [if_neg (by rw [M.old j hj]; omega)]; exact M.old j hj
  rintro i hi _ ⟨hi2,h2,lab2,c2,y2,y5',y6',rfl,C,g,hold⟩ next2
  by_cases hil:i < S.length
  ·obtain ⟨s,hs⟩:=get_some hil
   obtain ⟨cS,s1,s2,s3⟩:=hS
   have s1':=s1.gro g
   obtain ⟨a,ha⟩:=get_some (show i < cS.length by rw [s2]; exact hil)
   have p0:=s3 i a s ha hs
   have i1:=s1'.iaddr (q := .i64) (k:=i) (by rw [s2]; exact hil)
   have i2:=s1'.load ha
   obtain ⟨h3,lab3,c3,e3,C3,g3,hl3⟩:=cadd_spec hN C hn hG hB (fun t ht => hG t (List.mem_of_mem_take ht)) (p0.gro g) (fun j hj => hold j (SlAt.oid_lt p0 hj)) (List.mem_of_getElem? hs)
   simp (disch:=omega) only [RSe.down,lssT,i1,i2,e3]
   rw [<- take_succ_get hs] at C3
   refine next2 hil _ ⟨by omega,h3,lab3,c3,_,_,_,rfl,C3,g.chg_new g3 fun j hj => ?_,fun j hj => ?_⟩
   ·exact Nat.le_of_not_lt fun hlt => hj (hold j hlt)
   ·rw [hl3 j (Nat.lt_of_lt_of_le hj g.le)]; exact hold j hj
  ·obtain rfl:i = S.length:=by omega
   simp (disch:=omega) only [RSe.down,lssF]
   rw [List.take_length] at C
   exact ⟨(fun i hi => by cases hi),_,rfl,h.next,lab2,ids,c2,rfl,C,g,Nat.le_refl _⟩
end
end Go.AM
namespace Go.Proofs
open Go.Shelf
def Tryz.sortPerm_ren:Go.Shelf.Ren:=⟨fun | 6 => 159 | 15 => 217 | 14 => 216 | 28 => 245 | 29 => 246 | 20 => 237 | 21 => 238 | 22 => 239 | 23 => 240 | 24 => 241 | 25 => 242 | 26 => 243 | 27 => 244 | 46 => 267 | 47 => 268 | 48 => 269 | 49 => 270 | 50 => 271 | 57 => 278 | n => n,fun | 22 => 22 | 24 => 62 | 25 => 118 | 3 => 3 | 39 => 223 | 0 => 0 | 53 => 252 | 55 => 131 | 4 => 4 | 46 => 246 | 45 => 245 | 50 => 181 | 5 => 5 | 9 => 9 | 66 => 265 | 70 => 269 | 76 => 275 | 77 => 276 | n => n,fun n => n⟩
theorem Tryz.sortPerm:SlLaysF.n6 Tryz.prog Tryz.sortPerm_ren where
 mixed:=by kernel_rfl
 f6:=⟨Tryz.f159.name,by decide,Tryz.func159.trans (congrArg some (by kernel_rfl))⟩
 f14:=⟨Tryz.f216.name,by decide,Tryz.func216.trans (congrArg some (by kernel_rfl))⟩
 f15:=Tryz.func217.trans (congrArg some (by kernel_rfl))
 f20:=⟨Tryz.f237.name,by decide,Tryz.func237.trans (congrArg some (by kernel_rfl))⟩
 f21:=⟨Tryz.f238.name,by decide,Tryz.func238.trans (congrArg some (by kernel_rfl))⟩
 f22:=⟨Tryz.f239.name,by decide,Tryz.func239.trans (congrArg some (by kernel_rfl))⟩
 f23:=⟨Tryz.f240.name,by decide,Tryz.func240.trans (congrArg some (by kernel_rfl))⟩
 f24:=⟨Tryz.f241.name,by decide,Tryz.func241.trans (congrArg some (by kernel_rfl))⟩
 f25:=⟨Tryz.f242.name,by decide,Tryz.func242.trans (congrArg some (by kernel_rfl))⟩
 f26:=⟨Tryz.f243.name,by decide,Tryz.func243.trans (congrArg some (by kernel_rfl))⟩
 f27:=⟨Tryz.f244.name,by decide,Tryz.func244.trans (congrArg some (by kernel_rfl))⟩
 f28:=Tryz.func245.trans (congrArg some (by kernel_rfl))
 f29:=Tryz.func246.trans (congrArg some (by kernel_rfl))
 f46:=⟨Tryz.f267.name,by decide,Tryz.func267.trans (congrArg some (by kernel_rfl))⟩
 f47:=Tryz.func268.trans (congrArg some (by kernel_rfl))
 f48:=Tryz.func269.trans (congrArg some (by kernel_rfl))
 f49:=⟨Tryz.f270.name,by decide,Tryz.func270.trans (congrArg some (by kernel_rfl))⟩
 f50:=⟨Tryz.f271.name,by decide,Tryz.func271.trans (congrArg some (by kernel_rfl))⟩
 f57:=⟨Tryz.f278.name,by decide,Tryz.func278.trans (congrArg some (by kernel_rfl))⟩
 t0:=Tryz.underlying0
 a0:=Tryz.isAgg0
 z0:=Tryz.sizeOf0
 v0:=Tryz.zeroValue0
 t3:=Tryz.underlying3
 a3:=Tryz.isAgg3
 z3:=Tryz.sizeOf3
 v3:=Tryz.zeroValue3
 t4:=Tryz.underlying4
 a4:=Tryz.isAgg4
 z4:=Tryz.sizeOf4
 v4:=Tryz.zeroValue4
 t5:=Tryz.underlying5
 a5:=Tryz.isAgg5
 z5:=Tryz.sizeOf5
 v5:=Tryz.zeroValue5
 t9:=Tryz.underlying9
 a9:=Tryz.isAgg9
 z9:=Tryz.sizeOf9
 v9:=Tryz.zeroValue9
 t22:=Tryz.underlying22
 a22:=Tryz.isAgg22
 z22:=Tryz.sizeOf22
 v22:=Tryz.zeroValue22
 a24:=Tryz.isAgg62
 z24:=Tryz.sizeOf62
 t25:=Tryz.underlying118
 a25:=Tryz.isAgg118
 z25:=Tryz.sizeOf118
 v25:=Tryz.zeroValue118
 t39:=Tryz.underlying223
 a39:=Tryz.isAgg223
 z39:=Tryz.sizeOf223
 v39:=Tryz.zeroValue223
 t45:=Tryz.underlying245
 a45:=Tryz.isAgg245
 z45:=Tryz.sizeOf245
 v45:=Tryz.zeroValue245
 t46:=Tryz.underlying246
 a46:=Tryz.isAgg246
 z46:=Tryz.sizeOf246
 v46:=Tryz.zeroValue246
 t50:=Tryz.underlying181
 a50:=Tryz.isAgg181
 z50:=Tryz.sizeOf181
 v50:=Tryz.zeroValue181
 t53:=Tryz.underlying252
 a53:=Tryz.isAgg252
 z53:=Tryz.sizeOf252
 v53:=Tryz.zeroValue252
 t55:=Tryz.underlying131
 a55:=Tryz.isAgg131
 z55:=Tryz.sizeOf131
 v55:=Tryz.zeroValue131
 t66:=Tryz.underlying265
 a66:=Tryz.isAgg265
 z66:=Tryz.sizeOf265
 v66:=Tryz.zeroValue265
 t70:=Tryz.underlying269
 a70:=Tryz.isAgg269
 z70:=Tryz.sizeOf269
 v70:=Tryz.zeroValue269
 t76:=Tryz.underlying275
 a76:=Tryz.isAgg275
 z76:=Tryz.sizeOf275
 v76:=Tryz.zeroValue275
 t77:=Tryz.underlying276
 a77:=Tryz.isAgg276
 z77:=Tryz.sizeOf276
 v77:=Tryz.zeroValue276
def Tryz.sortInt_ren:Go.Shelf.Ren:=⟨fun | 6 => 171 | 15 => 217 | 14 => 222 | 28 => 245 | 29 => 246 | 20 => 249 | 21 => 250 | 22 => 251 | 23 => 252 | 24 => 253 | 25 => 254 | 26 => 255 | 27 => 256 | 46 => 272 | 47 => 268 | 48 => 269 | 49 => 273 | 50 => 274 | 57 => 279 | n => n,fun | 22 => 39 | 24 => 3 | 25 => 194 | 3 => 3 | 39 => 223 | 0 => 0 | 53 => 252 | 55 => 131 | 4 => 4 | 46 => 246 | 45 => 245 | 50 => 181 | 5 => 5 | 9 => 9 | 66 => 265 | 70 => 269 | 76 => 275 | 77 => 276 | n => n,fun n => n⟩
theorem Tryz.sortInt:SlLaysF.n6 Tryz.prog Tryz.sortInt_ren where
 mixed:=by kernel_rfl
 f6:=⟨Tryz.f171.name,by decide,Tryz.func171.trans (congrArg some (by kernel_rfl))⟩
 f14:=⟨Tryz.f222.name,by decide,Tryz.func222.trans (congrArg some (by kernel_rfl))⟩
 f15:=Tryz.func217.trans (congrArg some (by kernel_rfl))
 f20:=⟨Tryz.f249.name,by decide,Tryz.func249.trans (congrArg some (by kernel_rfl))⟩
 f21:=⟨Tryz.f250.name,by decide,Tryz.func250.trans (congrArg some (by kernel_rfl))⟩
 f22:=⟨Tryz.f251.name,by decide,Tryz.func251.trans (congrArg some (by kernel_rfl))⟩
 f23:=⟨Tryz.f252.name,by decide,Tryz.func252.trans (congrArg some (by kernel_rfl))⟩
 f24:=⟨Tryz.f253.name,by decide,Tryz.func253.trans (congrArg some (by kernel_rfl))⟩
 f25:=⟨Tryz.f254.name,by decide,Tryz.func254.trans (congrArg some (by kernel_rfl))⟩
 f26:=⟨Tryz.f255.name,by decide,Tryz.func255.trans (congrArg some (by kernel_rfl))⟩
 f27:=⟨Tryz.f256.name,by decide,Tryz.func256.trans (congrArg some (by kernel_rfl))⟩
 f28:=Tryz.func245.trans (congrArg some (by kernel_rfl))
 f29:=Tryz.func246.trans (congrArg some (by kernel_rfl))
 f46:=⟨Tryz.f272.name,by decide,Tryz.func272.trans (congrArg some (by kernel_rfl))⟩
 f47:=Tryz.func268.trans (congrArg some (by kernel_rfl))
 f48:=Tryz.func269.trans (congrArg some (by kernel_rfl))
 f49:=⟨Tryz.f273.name,by decide,Tryz.func273.trans (congrArg some (by kernel_rfl))⟩
 f50:=⟨Tryz.f274.name,by decide,Tryz.func274.trans (congrArg some (by kernel_rfl))⟩
 f57:=⟨Tryz.f279.name,by decide,Tryz.func279.trans (congrArg some (by kernel_rfl))⟩
 t0:=Tryz.underlying0
 a0:=Tryz.isAgg0
 z0:=Tryz.sizeOf0
 v0:=Tryz.zeroValue0
 t3:=Tryz.underlying3
 a3:=Tryz.isAgg3
 z3:=Tryz.sizeOf3
 v3:=Tryz.zeroValue3
 t4:=Tryz.underlying4
 a4:=Tryz.isAgg4
 z4:=Tryz.sizeOf4
 v4:=Tryz.zeroValue4
 t5:=Tryz.underlying5
 a5:=Tryz.isAgg5
 z5:=Tryz.sizeOf5
 v5:=Tryz.zeroValue5
 t9:=Tryz.underlying9
 a9:=Tryz.isAgg9
 z9:=Tryz.sizeOf9
 v9:=Tryz.zeroValue9
 t22:=Tryz.underlying39
 a22:=Tryz.isAgg39
 z22:=Tryz.sizeOf39
 v22:=Tryz.zeroValue39
 a24:=Tryz.isAgg3
 z24:=Tryz.sizeOf3
 t25:=Tryz.underlying194
 a25:=Tryz.isAgg194
 z25:=Tryz.sizeOf194
 v25:=Tryz.zeroValue194
 t39:=Tryz.underlying223
 a39:=Tryz.isAgg223
 z39:=Tryz.sizeOf223
 v39:=Tryz.zeroValue223
 t45:=Tryz.underlying245
 a45:=Tryz.isAgg245
 z45:=Tryz.sizeOf245
 v45:=Tryz.zeroValue245
 t46:=Tryz.underlying246
 a46:=Tryz.isAgg246
 z46:=Tryz.sizeOf246
 v46:=Tryz.zeroValue246
 t50:=Tryz.underlying181
 a50:=Tryz.isAgg181
 z50:=Tryz.sizeOf181
 v50:=Tryz.zeroValue181
 t53:=Tryz.underlying252
 a53:=Tryz.isAgg252
 z53:=Tryz.sizeOf252
 v53:=Tryz.zeroValue252
 t55:=Tryz.underlying131
 a55:=Tryz.isAgg131
 z55:=Tryz.sizeOf131
 v55:=Tryz.zeroValue131
 t66:=Tryz.underlying265
 a66:=Tryz.isAgg265
 z66:=Tryz.sizeOf265
 v66:=Tryz.zeroValue265
 t70:=Tryz.underlying269
 a70:=Tryz.isAgg269
 z70:=Tryz.sizeOf269
 v70:=Tryz.zeroValue269
 t76:=Tryz.underlying275
 a76:=Tryz.isAgg275
 z76:=Tryz.sizeOf275
 v76:=Tryz.zeroValue275
 t77:=Tryz.underlying276
 a77:=Tryz.isAgg276
 z77:=Tryz.sizeOf276
 v77:=Tryz.zeroValue276
end Go.Proofs
namespace Go.AM
open Go Go.GT
def I0:Oracle:=fun _ _ _ => none
noncomputable def srt:Oracle:=fun f a h => if f = 171 \/ f = 159 then sortJ tab.get otab.get I0 a h else none
theorem sortJ_plain {T0 T:FnTab} {I:Oracle} {args:List AV} {h:AHeap} {r:AV × AHeap} (he:sortJ T0 T I args h = some r) (l:Nat):AV.fn (.yield l) [] [] ∉ args:=by
 unfold sortJ at he
 split at he <;> first | (cases he; done) | skip
 intro hm
 rcases List.mem_cons.1 hm with e | e
 ·cases e
 ·rcases List.mem_cons.1 e with e | e
  ·cases e
  ·cases e
theorem srtOK:IOK Go.Proofs.Tryz.prog srt:=by
 refine ⟨fun g args av h h' he ρ B w args' hs ha => ?_,fun g args r h he l => ?_⟩
 ·unfold srt at he
  split at he
  ·rename_i hg
   rcases hg with rfl | rfl
   ·exact sortJ_sound Go.Proofs.Tryz.sortInt mixed tabOK otabOK IOK.none args av h h' he ρ B w args' hs ha
   ·exact sortJ_sound Go.Proofs.Tryz.sortPerm mixed tabOK otabOK IOK.none args av h h' he ρ B w args' hs ha
  ·cases he
 ·unfold srt at he
  split at he
  ·exact sortJ_plain he l
  ·cases he
structure Srt (I:Oracle):Prop where
 no:NoI I
 ints:∀ a h,I 171 a h = sortJ tab.get otab.get I0 a h
 perms:∀ a h,I 159 a h = sortJ tab.get otab.get I0 a h
theorem srt_srt:Srt srt:=⟨fun _ _ _ h1 h2 _ _ => if_neg fun e => e.elim h2 h1,fun _ _ => if_pos (.inl rfl),fun _ _ => if_pos (.inr rfl)⟩
theorem noI0:NoI I0:=fun _ _ _ _ _ _ _ => rfl
end Go.AM
namespace Go.AM
open Go Go.GT
theorem ecmp_spec {hr : AHeap} {ib n x y : Nat} {vu : AV} {u : Pm} (hl : loadV none (.ptr ib 0) hr = some vu) (hu : PmAt hr vu u) (hp : PV n u) (hn : n <= 1000) (hx : x < n) (hy : y < n) :
  lim otab.get I0 (.fn 229) [.int .i64 (x:Int), .int .i64 (y:Int), .ptr ib 0] hr = some (.int .i64 ((ap u x:Int) - (ap u y:Int)),hr):=by
 refine lim_walk (T:=otab.get) (I:=I0) (f:=229) (fn:=of229) rfl rfl ?_
 show WK _ _ [] ⟨[.int .i64 (x:Int), .int .i64 (y:Int), .ptr ib 0,aundef],hr⟩ _
 dsimp only [of229,Z.t,Z.f,Z.i,Z.q,Z.m,Z.l,Z.b,Z.c,Z.w]
 have h1:=hp.ap_lt hx
 have h2:=hp.ap_lt hy
 have x1:=hu.iaddr (q := .i64) (k:=x) (by rw [hp.len]; exact hx)
 have x2:=hu.load (k:=x) (by rw [hp.len]; exact hx)
 have y1:=hu.iaddr (q := .i64) (k:=y) (by rw [hp.len]; exact hy)
 have y2:=hu.load (k:=y) (by rw [hp.len]; exact hy)
 simp (disch:=omega) only [RSe.down,hl,x1,x2,y1,y2,WDV_zero,sub_i64]
 exact ⟨(fun i hi => by cases hi),rfl,trivial⟩
section
variable {I:Oracle} (hS:Srt I) {h:AHeap}
include hS
theorem imgs_sort {n ib io : Nat} {cap : ACap} {vu : AV} {u : Pm} {orb : List Nat} (hg : h.get io = some (.cells (pc orb) true)) (hne : ib ≠ io) (hib : ib < h.next) (hl : loadV none (.ptr ib 0) h = some vu) (hu : PmAt h vu u) (huo : oid vu ≠ some io) (hp : PV n u) (hn : n <= 1000)
  (ho:∀ x ∈ orb,x < n) (hnd:orb.Nodup) (h0:0 < orb.length) (hmax:orb.length <= 1000000) :
  lim otab.get I (.fn 171) [.slice io 0 orb.length cap, .fn (.func 229) [] [.ptr ib 0]] h = some (.tup [],h.set io (.cells (pc (so u orb)) true)):=by
 refine lim_oracle ?_
 rw [hS.ints]
 have hrow:((pc orb).drop 0).take orb.length = pc orb:=by rw [List.drop_zero, <- pc_len,List.take_length]
 have hl':loadV none (.ptr ib 0) (roH h io) = some vu:=by
  show (match cellsOf (roH h io) ib with | some c => fit none 0 c | none => none) = some vu
  rw [roH_cells hib hne]; exact hl
 have hu':PmAt (roH h io) vu u:=SlAt.ro hu huo
 have hcmp : ∀ a ∈ pc orb, ∀ b ∈ pc orb, ∃ x y, x ∈ orb /\ y ∈ orb /\ a = .int .i64 (x : Int) /\ b = .int .i64 (y : Int) /\ lim otab.get I0 (.fn 229) (a :: b :: [.ptr ib 0]) (roH h io) = some (.int .i64 ((ap u x : Int) - (ap u y : Int)), roH h io) /\
   cmpZ otab.get I0 229 [.ptr ib 0] (roH h io) a b = (ap u x:Int) - (ap u y:Int):=by
  intro a ha b hb
  obtain ⟨x,hx,rfl⟩:=List.mem_map.1 ha
  obtain ⟨y,hy,rfl⟩:=List.mem_map.1 hb
  have e:=ecmp_spec hl' hu' hp hn (ho x hx) (ho y hy)
  exact ⟨x,y,hx,hy,rfl,rfl,e,by unfold cmpZ; rw [e]⟩
 have hz:∀ x ∈ orb, ∀ y ∈ orb,cmpZ otab.get I0 229 [.ptr ib 0] (roH h io) (.int .i64 (x:Int)) (.int .i64 (y:Int)) = (ap u x:Int) - (ap u y:Int):=fun x hx y hy => by
  have e:=ecmp_spec hl' hu' hp hn (ho x hx) (ho y hy)
  unfold cmpZ; rw [e]
 have hmem:∀ a ∈ pc orb, ∃ x ∈ orb,a = .int .i64 (x:Int):=fun a ha => by
  obtain ⟨x,hx,e⟩:=List.mem_map.1 ha; exact ⟨x,hx,e.symm⟩
 have hL:SortedAs otab.get I0 229 [.ptr ib 0] (roH h io) (pc orb) (pc (so u orb)):=by
  refine ⟨(so_perm u orb).map _,?_⟩
  show List.Pairwise _ ((so u orb).map fun x:Nat => AV.int .i64 (x:Int))
  rw [List.pairwise_map]
  refine (List.Pairwise.and_mem.1 (so_asc hp hnd ho)).imp ?_
  rintro a b ⟨ha,hb,e⟩
  rw [hz b (so_mem.1 hb) a (so_mem.1 ha)]
  omega
 have hx:SortAt tab.get otab.get I0 h io 0 orb.length 229 [.ptr ib 0] (pc orb):=by
  refine ⟨h0,by omega,by rw [pc_len]; omega,⟨_,rfl⟩,?_,?_⟩
  ·rw [hrow]
   refine ⟨fun a ha => ?_,fun a ha b hb => ?_,fun a ha => ?_,fun a ha b hb c hc h1 h2 => ?_,fun a ha b hb h1 h2 => ?_⟩
   ·obtain ⟨x,_,rfl⟩:=hmem a ha; rfl
   ·obtain ⟨x,y,_,_,_,_,e,ez⟩:=hcmp a ha b hb
    rw [ez]; exact ⟨_,e⟩
   ·obtain ⟨x,hx,rfl⟩:=hmem a ha
    rw [hz x hx x hx]; omega
   ·obtain ⟨x,hx,rfl⟩:=hmem a ha
    obtain ⟨y,hy,rfl⟩:=hmem b hb
    obtain ⟨z,hz',rfl⟩:=hmem c hc
    rw [hz x hx y hy] at h1
    rw [hz y hy z hz'] at h2
    rw [hz x hx z hz']; omega
   ·obtain ⟨x,hx,rfl⟩:=hmem a ha
    obtain ⟨y,hy,rfl⟩:=hmem b hb
    rw [hz x hx y hy] at h1
    rw [hz y hy x hx] at h2
    rw [hp.inj (ho x hx) (ho y hy) (by omega)]
  ·rw [hrow]; exact ⟨_,hL⟩
 have key:=sortJ_eq (cap:=cap) hg hx (by rw [hrow]; exact hL)
 rw [key]
 have e1:(pc orb).take 0 ++ (pc (so u orb) ++ (pc orb).drop (0 + orb.length)) = pc (so u orb):=by
  rw [Nat.zero_add,List.drop_eq_nil_of_le (by rw [pc_len]; exact Nat.le_refl _),List.append_nil]; rfl
 rw [e1]
end
theorem ChAt.other {F:Nat -> Prop} {lab lab':Nat -> Nat} {h h':AHeap} {n ic:Nat} {ids:Nat -> Nat} {c:List Lv} (C:ChAt lab h n ic ids c) (k:Chg F h h') (hF:∀ j,F j -> lvF lab n j) (hl:∀ j,j < h.next -> lab' j = lab j) (hnew:∀ j,h'.next <= j -> lab' j = 0):ChAt lab' h' n ic ids c:=by
 refine ⟨hnew,C.len,C.top_keep k (fun j hj => (hF j hj).1) hl,fun i l hl2 => ?_⟩
 obtain ⟨orb,iw,gsv,cw,cg,L⟩:=C.lv i l hl2
 have hi:i < n:=by
  have:=(List.getElem?_eq_some_iff.1 hl2).1
  rwa [C.len] at this
 exact ⟨orb,iw,gsv,cw,cg,L.keep k (fun j hj => ⟨(hF j hj).1,by have:=(hF j hj).2; omega⟩) hl⟩
structure OutAt (lab:Nat -> Nat) (h:AHeap) (n oo:Nat) (b:AV) (cb:List AV) (acc:List Pm):Prop where
 get:h.get oo = some (.cells [b] true)
 lt:oo < h.next
 lo:lab oo = 4 * n + 1
 own:Own 1 h b acc.length cb
 lb:∀ j,oid b = some j -> lab j = 4 * n + 1
 ne:oid b ≠ some oo
 len:cb.length = acc.length
 el:∀ (i:Nat) (a:AV) (p:Pm),cb[i]? = some a -> acc[i]? = some p -> PmAt h a p /\ Imm lab a
theorem OutAt.gro {lab:Nat -> Nat} {h h':AHeap} {n oo:Nat} {b:AV} {cb:List AV} {acc:List Pm} (o:OutAt lab h n oo b cb acc) (g:Gro h h'):OutAt lab h' n oo b cb acc :=
 ⟨by rw [g.same _ o.lt]; exact o.get,Nat.lt_of_lt_of_le o.lt g.le,o.lo,o.own.gro g,o.lb,o.ne,o.len,fun i a p ha hp => ⟨(o.el i a p ha hp).1.gro g,(o.el i a p ha hp).2⟩⟩
theorem OutAt.app {lab : Nat -> Nat} {h : AHeap} {n oo : Nat} {b : AV} {cb : List AV} {acc : List Pm} (o : OutAt lab h n oo b cb acc) {vu : AV} {u : Pm} (hu : PmAt h vu u) (hi : Imm lab vu) (hnew : ∀ j, h.next <= j -> lab j = 0) (hb : acc.length <= 1000000) :
  ∃ h2 h3 b',bslV vu h = some (.cells [vu] true, .slice h.next 0 1 (.exact 1)) /\ appV 1 24 b (.slice h.next 0 1 (.exact 1)) (h.push (.cells [vu] true)) = some (b',h2) /\ stV 1 (.ptr oo 0) b' h2 = some (aundef,h3) /\ Chg (lvF lab n) h h3 /\
   ∃ lab',(∀ j,j < h.next -> lab' j = lab j) /\ (∀ j,h3.next <= j -> lab' j = 0) /\ OutAt lab' h3 n oo b' (cb ++ [vu]) (acc ++ [u]):=by
 have hvs:vu.scalar = true:=SlAt.scalar hu
 obtain ⟨b',h2,e2,o2,c2,i2,x2⟩:=o.own.app1 (bytes:=24) (c:=[vu]) rfl (by simp [hvs]) (by decide) (by omega)
 have g2:h2.get oo = some (.cells [b] true):=by rw [c2.same oo o.lt o.ne]; exact o.get
 have bs:b'.scalar = true:=SlAt.scalar (Own.at o2)
 have e3:stV 1 (.ptr oo 0) b' h2 = some (aundef,h2.set oo (.cells [b'] true)):=stV_at (k:=0) (x:=b') g2 (by simp) bs
 have c3:Chg (fun j => j = oo) h2 (h2.set oo (.cells [b'] true)):=Chg.set (F:=fun j => j = oo) h2 rfl _
 have hF:∀ j,oid b = some j \/ j = oo -> lvF lab n j:=by
  rintro j (e | e)
  ·exact ⟨by rw [o.lb j e]; omega,by rw [o.lb j e]; omega⟩
  ·subst e; exact ⟨by rw [o.lo]; omega,by rw [o.lo]; omega⟩
 have call:Chg (lvF lab n) h (h2.set oo (.cells [b'] true)):=(c2.mono (G:=lvF lab n) fun j _ hj => hF j (.inl hj)).trans c3 fun j _ hj => hF j (.inr hj)
 have hl:∀ j,j < h.next -> (fun j => if j = h.next + 1 then 4 * n + 1 else lab j) j = lab j:=fun j hj => if_neg (by omega)
 have keep:∀ {v q},PmAt h v q -> Imm lab v -> PmAt (h2.set oo (.cells [b'] true)) v q /\ Imm (fun j => if j = h.next + 1 then 4 * n + 1 else lab j) v:=fun hq hm =>
  ⟨hq.imm hm call fun j hj => hj.1,hm.lab (fun j hj => SlAt.oid_lt hq hj) hl⟩
 have hnb:h.next + 1 ≠ oo:=by have:=o.lt; omega
 refine ⟨h2,_,b',bslV_sc hvs,e2,e3,call,_,hl,fun j hj => ?_,AHeap.get_set_same _ _ _,?_,(hl _ o.lt).trans o.lo,?_,fun j hj => ?_,?_,?_,fun i a p ha hp => ?_⟩
 ·rw [AHeap.next_set,x2] at hj
  show (if j = h.next + 1 then 4 * n + 1 else lab j) = 0
  rw [if_neg (by omega)]; exact hnew j (by omega)
 ·rw [AHeap.next_set,x2]; have:=o.lt; omega
 ·rw [List.length_append]
  exact o2.chg c3 fun j hj e => by rw [i2] at hj; cases hj; exact hnb e
 ·rw [i2] at hj; cases hj; exact if_pos rfl
 ·rw [i2]; intro e; cases e; exact hnb rfl
 ·rw [List.length_append,List.length_append,o.len]; rfl
 ·by_cases ei:i < acc.length
  ·rw [List.getElem?_append_left (by rw [o.len]; exact ei)] at ha
   rw [List.getElem?_append_left ei] at hp
   exact keep (o.el i a p ha hp).1 (o.el i a p ha hp).2
  ·have e2 : i = acc.length := by
    have:=(List.getElem?_eq_some_iff.1 hp).1
    simp at this; omega
   subst e2
   rw [List.getElem?_append_right (by rw [o.len]; exact Nat.le_refl _),o.len] at ha
   rw [List.getElem?_append_right (Nat.le_refl _)] at hp
   simp at ha hp; subst ha; subst hp
   exact keep hu hi
end Go.AM
namespace Go.AM
open Go Go.GT
theorem evalE_callV {tm:List AV} {h:AHeap} {call:CallT} {f:AOpd} {args:List AOpd} {g:Nat} {fs cs:List AV} (e:ev tm f = .fn (.func g) fs cs):evalE (.call f args) call tm h = call (.fn g) (fs ++ evs tm args ++ cs) h:=by
 show (match ev tm f with
  | .fn (.func g) first captured => call (.fn g) (first ++ evs tm args ++ captured) h
  | .fn (.yield l) first captured => match first,captured with
   | [], [] => call (.yield l) (evs tm args) h
   | _,_ => none
  | _ => none) = _
 rw [e]
structure Cel (lab:Nat -> Nat) (h:AHeap) (i:Nat) (v:AV):Prop where
 lt:i < h.next
 lab:lab i = 0
 ld:loadV none (.ptr i 0) h = some v
theorem Cel.keep {F:Nat -> Prop} {lab lab':Nat -> Nat} {h h':AHeap} {i:Nat} {v:AV} (c:Cel lab h i v) (k:Chg F h h') (hF:∀ j,F j -> lab j ≠ 0) (hl:∀ j,j < h.next -> lab' j = lab j):Cel lab' h' i v :=
 ⟨Nat.lt_of_lt_of_le c.lt k.le,by rw [hl _ c.lt]; exact c.lab,by rw [loadV_same k c.lt fun hf => hF _ hf c.lab]; exact c.ld⟩
theorem Cel.gro {lab:Nat -> Nat} {h h':AHeap} {i:Nat} {v:AV} (c:Cel lab h i v) (g:Gro h h'):Cel lab h' i v:=c.keep (F:=fun _ => False) g.chg (fun _ hf => hf.elim) fun _ _ => rfl
section
variable {I:Oracle} (hS:Srt I) {n ic:Nat} {ids:Nat -> Nat} {c:List Lv} {G0:List Pm}
include hS
theorem more_spec (hn : n <= 20) (ho : ChOK n G0 0 c) (hc : Cl 0 c) {ip oo im B : Nat} : ∀ (d k : Nat), k + d = n -> ∀ (lab : Nat -> Nat) (h : AHeap) (vu : AV) (u : Pm) (b : AV) (cb : List AV) (acc : List Pm), ChAt lab h n ic ids c -> PmAt h vu u -> Imm lab vu -> PV n u ->
  Cel lab h ip (.ptr ic 0) -> Cel lab h im (.fn (.func 227) [] [.ptr ip 0, .ptr oo 0, .ptr im 0]) -> OutAt lab h n oo b cb acc -> acc.length + ordC (c.drop k) <= 5040 -> (∀ j,oid vu = some j -> B <= j) -> (∀ a ∈ cb, ∀ j,oid a = some j -> B <= j) -> B <= h.next ->
  ∃ h' lab' b' cb',lim otab.get I (.fn 227) [.int .i64 (k:Int),vu, .ptr ip 0, .ptr oo 0, .ptr im 0] h = some (.tup [],h') /\ ChAt lab' h' n ic ids c /\ OutAt lab' h' n oo b' cb' (acc ++ els (c.drop k) k u) /\ Chg (lvF lab n) h h' /\ (∀ j,j < h.next -> lab' j = lab j) /\ ∀ a ∈ cb', ∀ j,oid a = some j -> B <= j:=by
 have hN:=hS.no
 intro d
 induction d with
 | zero =>
  intro k hk lab h vu u b cb acc C hu hi hp cp cm O hb hB1 hB2 hB3
  obtain rfl:k = n:=by omega
  refine (lim_walk_ex (T:=otab.get) (I:=I) (f:=227) (fn:=of227) rfl (a:=[.int .i64 (k:Int),vu, .ptr ip 0, .ptr oo 0, .ptr im 0]) (h:=h)
   (P:=fun a h' => ∃ lab' b' cb',a = .tup [] /\ ChAt lab' h' k ic ids c /\ OutAt lab' h' k oo b' cb' (acc ++ els (c.drop k) k u) /\ Chg (lvF lab k) h h' /\ (∀ j,j < h.next -> lab' j = lab j) /\ ∀ a ∈ cb', ∀ j,oid a = some j -> B <= j) (hN.at _ _ (by decide) (by decide) (by decide)) ?_) |> fun ⟨a,h',e,lab',b',cb',q1,q2⟩ => ⟨h',lab',b',cb',by rw [e,q1],q2⟩
  show WK _ _ [] ⟨[.int .i64 (k:Int),vu, .ptr ip 0, .ptr oo 0, .ptr im 0,aundef,aundef,aundef,aundef,aundef,aundef],h⟩ _
  dsimp only [of227,Z.t,Z.f,Z.i,Z.q,Z.m,Z.l,Z.b,Z.c,Z.w]
  have hvs:vu.scalar = true:=SlAt.scalar hu
  have g1:=Gro.push h (.cells [vu] true)
  have C1:=C.gro g1
  have O1:=O.gro g1
  have l1:=(cp.gro g1).ld
  have l7:loadV none (.ptr h.next 0) (h.push (.cells [vu] true)) = some vu:=loadV_get (AHeap.get_push_same h _) rfl
  have lo:loadV none (.ptr oo 0) (h.push (.cells [vu] true)) = some b:=loadV_get O1.get rfl
  obtain ⟨h2,h3,b',e1,e2,e3,cg,lab',hl,hnew,O'⟩:=O1.app (hu.gro g1) hi C1.new (by omega)
  simp (disch:=omega) only [RSe.down,scalar_cells hvs,l1,C1.deg,lo,l7,e1,e2,e3]
  have hdr:c.drop k = []:=List.drop_eq_nil_of_le (by rw [C.len]; exact Nat.le_refl _)
  rw [hdr]
  exact ⟨(fun i hi => by cases hi),_,rfl,lab',b',_,rfl,C1.other cg (fun j hj => hj) hl hnew,O',g1.chg.trans cg fun j _ hj => hj,fun j hj => hl j (Nat.lt_of_lt_of_le hj g1.le),fun a ha => by
   rcases List.mem_append.1 ha with q | q
   ·exact hB2 a q
   ·rw [List.mem_singleton.1 q]; exact hB1⟩
 | succ d ih =>
  intro k hk lab h vu u b cb acc C hu hi hp cp cm O hb hB1 hB2 hB3
  refine (lim_walk_ex (T:=otab.get) (I:=I) (f:=227) (fn:=of227) rfl (a:=[.int .i64 (k:Int),vu, .ptr ip 0, .ptr oo 0, .ptr im 0]) (h:=h)
   (P:=fun a h' => ∃ lab' b' cb',a = .tup [] /\ ChAt lab' h' n ic ids c /\ OutAt lab' h' n oo b' cb' (acc ++ els (c.drop k) k u) /\ Chg (lvF lab n) h h' /\ (∀ j,j < h.next -> lab' j = lab j) /\ ∀ a ∈ cb', ∀ j,oid a = some j -> B <= j) (hN.at _ _ (by decide) (by decide) (by decide)) ?_) |> fun ⟨a,h',e,lab',b',cb',q1,q2⟩ => ⟨h',lab',b',cb',by rw [e,q1],q2⟩
  show WK _ _ [] ⟨[.int .i64 (k:Int),vu, .ptr ip 0, .ptr oo 0, .ptr im 0,aundef,aundef,aundef,aundef,aundef,aundef],h⟩ _
  dsimp only [of227,Z.t,Z.f,Z.i,Z.q,Z.m,Z.l,Z.b,Z.c,Z.w]
  have hvs:vu.scalar = true:=SlAt.scalar hu
  have g1:=Gro.push h (.cells [vu] true)
  have C1:=C.gro g1
  have l1:=(cp.gro g1).ld
  have hkn:k < n:=by omega
  obtain ⟨lv,t1,t2,t3,l,hl,orb,iw,gsv,cw,cg,L⟩:=C1.at hkn
  have hd:=drop_cons hl
  have hok:ChOK n G0 k (c.drop k):=by
   have:=(ChOK.drop k ho hc (by rw [C.len]; omega)).1
   rwa [Nat.zero_add] at this
  rw [hd] at hok hb ⊢
  have hlo:=hok.2.1
  have horb:=hlo.orb_n hkn
  have hxl:∀ x ∈ l.orb,x < n:=fun x hx => hlo.orb_lt hkn hx
  have hpos:0 < l.orb.length:=List.length_pos_of_mem ((hlo.orb k).2 ⟨_,hlo.base⟩)
  obtain ⟨vo,h2,f2,o2,g2,w2⟩:=clone_own (I:=I) (f:=228) rfl (fun _ _ => hN.at _ _ (by decide) (by decide) (by decide)) (p:=l.orb) (va:=orb) (h:=h.push (.cells [vu] true)) (Own.at L.oo) (by omega)
  obtain ⟨io,cao,rfl,hio,hio2,hget,hcap⟩:=w2 (fun e => by rw [e] at hpos; exact absurd hpos (by decide))
  have hne:h.next ≠ io:=by rw [AHeap.next_push] at hio; omega
  have l7:loadV none (.ptr h.next 0) h2 = some vu:=loadV_get (by rw [g2.same _ (by rw [AHeap.next_push]; omega)]; exact AHeap.get_push_same h _) rfl
  have hu2:=(hu.gro g1).gro g2
  have es:=imgs_sort hS (cap:=cao) hget hne (by have:=g2.le; rw [AHeap.next_push] at this; omega) l7 hu2 (fun e => by have:=SlAt.oid_lt hu e; rw [AHeap.next_push] at hio; omega) hp (by omega) hxl hlo.ond hpos (by omega)
  have hsl:(pc (so u l.orb)).length = l.orb.length:=by rw [pc_len,(so_perm u l.orb).length_eq]
  have hlen:∀ {h':AHeap},lenV 1 (.slice io 0 l.orb.length cao) h' = some (.int .i64 (l.orb.length:Int)):=rfl
  simp (disch:=omega) only [RSe.down,scalar_cells hvs,l1,C1.deg,t1,t2,t3,L.l1,f2,es,hlen]
  have g3:Gro h (h2.set io (.cells (pc (so u l.orb)) true)):=(g1.trans g2).set (by rw [AHeap.next_push] at hio; omega) _
  have hvo3:PmAt (h2.set io (.cells (pc (so u l.orb)) true)) (.slice io 0 l.orb.length cao) (so u l.orb):=tab_at (h:=h2.set io (.cells (pc (so u l.orb)) true)) hio2 (AHeap.get_set_same _ _ _) hsl hcap
  have hio0:lab io = 0:=C.new io (by rw [AHeap.next_push] at hio; omega)
  have cu3:Cel lab (h2.set io (.cells (pc (so u l.orb)) true)) h.next vu:=⟨by rw [AHeap.next_set]; have:=g2.le; rw [AHeap.next_push] at this; omega,C.new _ (Nat.le_refl _),by rw [loadV_same (Chg.set (F:=fun j => j = io) h2 rfl _) (by have:=g2.le; rw [AHeap.next_push] at this; omega) hne]; exact l7⟩
  generalize hh3:h2.set io (.cells (pc (so u l.orb)) true) = h3 at g3 hvo3 cu3
  have hds:(so u l.orb).length = l.orb.length:=(so_perm u l.orb).length_eq
  refine WK_loopJ (fun i s => i <= l.orb.length /\ ∃ y2 y3 y5 y6 h', s = ⟨[.int .i64 (k : Int), .int .i64 (i : Int), y2, y3, .ptr im 0, y5, y6, .ptr h.next 0, .slice io 0 l.orb.length cao, .ptr (ids k) 0, .int .i64 (l.orb.length : Int)], h'⟩ /\
    ∃ lab' b' cb',ChAt lab' h' n ic ids c /\ OutAt lab' h' n oo b' cb' (acc ++ ((so u l.orb).take i).flatMap fun x => els (c.drop (k + 1)) (k + 1) (mul (wd! l x) u)) /\ Chg (lvF lab n) h3 h' /\ (∀ j,j < h3.next -> lab' j = lab j) /\ ∀ a ∈ cb', ∀ j,oid a = some j -> B <= j) l.orb.length
   ⟨Nat.zero_le _,_,_,_,_,_,rfl,lab,b,cb,C.gro g3,by simpa using O.gro g3,Chg.refl _,fun _ _ => rfl,hB2⟩ ?_
  rintro i hi1 _ ⟨hi2,y2,y3,y5,y6,h',rfl,lab',b',cb',C',O',K,hlab,hcb⟩ next
  have hF0:∀ j,lvF lab n j -> lab j ≠ 0:=fun j hj => hj.1
  have hvo':PmAt h' (.slice io 0 l.orb.length cao) (so u l.orb):=hvo3.chg K fun j hj hf => by cases hj; exact hf.1 hio0
  by_cases hil:i < l.orb.length
  ·obtain ⟨x,hx⟩:=get_some (show i < (so u l.orb).length by rw [hds]; exact hil)
   have hxm:x ∈ l.orb:=so_mem.1 (List.mem_of_getElem? hx)
   obtain ⟨w1,w2,w3,w4⟩:=hlo.wd! hxm
   obtain ⟨orb',iw',gsv',cw',cg',L'⟩:=C'.lv k l hl
   obtain ⟨vw,hws,hsl2,hpw,himm⟩:=L'.word_some w1
   have hu':=(hu.gro g3).imm hi K hF0
   have hi':Imm lab' vu:=hi.lab (fun j hj => SlAt.oid_lt (hu.gro g3) hj) hlab
   obtain ⟨v6,h6,f6,n6⟩:=bmul hN hpw hu' w2 hp (by omega)
   have i1:=hvo'.iaddr (q := .i64) (k:=i) (by rw [hds]; exact hil)
   have i2:=hvo'.load (k:=i) (by rw [hds]; exact hil)
   have hap:ap (so u l.orb) i = x:=by unfold ap; simp [hx]
   rw [hap] at i2
   have hxl':=hxl x hxm
   have cu':=cu3.keep K hF0 hlab
   have cm':=(cm.gro g3).keep K hF0 hlab
   have cp':=(cp.gro g3).keep K hF0 hlab
   have m6:=(cm'.gro n6.gro).ld
   have hlenF:(((so u l.orb).take i).flatMap fun x => els (c.drop (k + 1)) (k + 1) (mul (wd! l x) u)).length = i * ordC (c.drop (k + 1)):=by
    rw [List.length_flatMap]
    simp only [length_els]
    rw [List.map_const',List.sum_replicate_nat,List.length_take,hds]
    rw [Nat.min_eq_left (by omega)]
   have hord:ordC (l :: c.drop (k + 1)) = l.orb.length * ordC (c.drop (k + 1)):=rfl
   have hmul:(i + 1) * ordC (c.drop (k + 1)) <= l.orb.length * ordC (c.drop (k + 1)):=Nat.mul_le_mul_right _ hil
   rw [Nat.add_mul,Nat.one_mul] at hmul
   obtain ⟨h7,lab7,b7,cb7,f7,C7,O7,K7,hl7,hcb7⟩:=ih (k + 1) (by omega) lab' h6 v6 (mul (wd! l x) u) b' cb' _ (C'.gro n6.gro) n6.at_ (n6.imm C'.new) (w2.mul hp) (cp'.gro n6.gro) (cm'.gro n6.gro) (O'.gro n6.gro) (by rw [List.length_append,hlenF]; omega) (fun j hj => Nat.le_trans (Nat.le_trans hB3 (Nat.le_trans g3.le K.le)) (n6.fresh hj)) hcb (Nat.le_trans hB3 (Nat.le_trans g3.le (Nat.le_trans K.le n6.gro.le)))
   simp (disch:=omega) only [RSe.down,lssT,i1,i2,cm'.ld,add1N,L'.l2,iaddrS,hws,cu'.ld,f6,f7,WDV_succ,WDV_zero,WDE_some,checks,lower,recheck,AOp.cls,AV.beq_refl,cond_true,true_and,m6]
   rw [evalE_callV (g:=227) (fs:=[]) (cs:=[.ptr ip 0, .ptr oo 0, .ptr im 0]) rfl]
   have f7':lim otab.get I (.fn 227) ([] ++ [AV.int IntKind.i64 ((k + 1:Nat):Int),v6] ++ [.ptr ip 0, .ptr oo 0, .ptr im 0]) h6 = some (.tup [],h7):=f7
   simp (disch:=omega) only [f7',WDE_none,RSe.down,add1N]
   refine next hil _ ⟨by omega,_,_,_,_,_,rfl,lab7,b7,cb7,C7,?_,K.trans (n6.gro.chg.trans K7 fun j _ hj => hj) fun j hj hf => ?_,fun j hj => ?_,hcb7⟩
   ·rw [take_succ_get hx,List.flatMap_append, <- List.append_assoc]
    simpa using O7
   ·exact ⟨by rw [<- hlab j hj]; exact hf.1,by rw [<- hlab j hj]; exact hf.2⟩
   ·rw [hl7 j (Nat.lt_of_lt_of_le hj (Nat.le_trans K.le n6.gro.le))]; exact hlab j hj
  ·obtain rfl:i = l.orb.length:=by omega
   simp (disch:=omega) only [RSe.down,lssF]
   rw [List.take_of_length_le (by omega)] at O'
   exact ⟨(fun i hi => by cases hi),_,rfl,lab',b',cb',rfl,C',O',g3.chg.trans K fun j _ hj => hj,fun j hj => hlab j (Nat.lt_of_lt_of_le hj g3.le),hcb⟩
end
end Go.AM
namespace Go.AM
open Go Go.GT
theorem ChAt.low {lab:Nat -> Nat} {h:AHeap} {n ic:Nat} {ids:Nat -> Nat} {c:List Lv} (C:ChAt lab h n ic ids c):ChAt (fun j => if 4 * n < lab j then 0 else lab j) h n ic ids c:=by
 have h0:∀ j,lab j = 0 -> (if 4 * n < lab j then 0 else lab j) = 0:=fun j hj => by rw [hj]; split <;> rfl
 refine ⟨fun j hj => h0 j (C.new j hj),C.len,?_,fun k l hl => ?_⟩
 ·obtain ⟨lv,cl,a1,a2,a3,a4,a5,a6,a7,a8⟩:=C.top
  exact ⟨lv,cl,a1,a2,a3,h0 _ a4,a5,fun j hj => h0 j (a6 j hj),a7,a8⟩
 ·have hk : k < n := by
   have:=(List.getElem?_eq_some_iff.1 hl).1
   rwa [C.len] at this
  obtain ⟨orb,iw,gsv,cw,cg,L⟩:=C.lv k l hl
  exact ⟨orb,iw,gsv,cw,cg,L.relab fun j => by
   by_cases e:4 * n < lab j
   ·exact .inr ⟨if_pos e,by omega,by omega⟩
   ·exact .inl (if_neg e)⟩
section
variable {I:Oracle} (hS:Srt I) {n ic:Nat} {ids:Nat -> Nat} {c:List Lv} {G0:List Pm} {lab:Nat -> Nat} {h:AHeap}
include hS
theorem celements_spec (C : ChAt lab h n ic ids c) (hn : n <= 20) (ho : ChOK n G0 0 c) (hc : Cl 0 c) (hb : ordC c <= 5040) :
  ∃ v cb h',lim otab.get I (.fn 191) [.ptr ic 0] h = some (v,h') /\ Gro h h' /\ PL h' v cb (els c 0 (one n)) /\ (∀ j,oid v = some j -> h.next <= j) /\ ∀ a ∈ cb, ∀ j,oid a = some j -> h.next <= j:=by
 have hN:=hS.no
 refine (lim_walk_ex (T:=otab.get) (I:=I) (f:=191) (fn:=of191) rfl (a:=[.ptr ic 0]) (h:=h)
  (P:=fun v h' => ∃ cb,Gro h h' /\ PL h' v cb (els c 0 (one n)) /\ (∀ j,oid v = some j -> h.next <= j) /\ ∀ a ∈ cb, ∀ j,oid a = some j -> h.next <= j) (hN.at _ _ (by decide) (by decide) (by decide)) ?_) |> fun ⟨a,h',e,cb,q⟩ => ⟨a,cb,h',e,q⟩
 show WK _ _ [] ⟨[.ptr ic 0,aundef,aundef,aundef],h⟩ _
 dsimp only [of191,Z.t,Z.f,Z.i,Z.q,Z.m,Z.l,Z.b,Z.c,Z.w]
 have hcl:(AV.ptr ic 0).cells = [.ptr ic 0]:=rfl
 have q3:(((h.push (.cells [.ptr ic 0] true)).push (.cells [.nils] true)).push (.cells [.nilf] true)).get (h.next + 2) = some (.cells [.nilf] true):=AHeap.get_push_same ((h.push _).push _) _
 have e1 : stV 1 (.ptr (h.next + 2) 0) (.fn (.func 227) [] [.ptr h.next 0, .ptr (h.next + 1) 0, .ptr (h.next + 2) 0]) (((h.push (.cells [.ptr ic 0] true)).push (.cells [.nils] true)).push (.cells [.nilf] true)) =
   some (aundef,(((h.push (.cells [.ptr ic 0] true)).push (.cells [.nils] true)).push (.cells [.nilf] true)).set (h.next + 2) (.cells [.fn (.func 227) [] [.ptr h.next 0, .ptr (h.next + 1) 0, .ptr (h.next + 2) 0]] true)) :=
  stV_at (k:=0) q3 (by simp) rfl
 have g4:Gro h ((((h.push (.cells [.ptr ic 0] true)).push (.cells [.nils] true)).push (.cells [.nilf] true)).set (h.next + 2) (.cells [.fn (.func 227) [] [.ptr h.next 0, .ptr (h.next + 1) 0, .ptr (h.next + 2) 0]] true)) :=
  ((Gro.push h _).trans ((Gro.push _ _).trans (Gro.push _ _))).set (by omega) _
 have p0:((((h.push (.cells [.ptr ic 0] true)).push (.cells [.nils] true)).push (.cells [.nilf] true)).set (h.next + 2) (.cells [.fn (.func 227) [] [.ptr h.next 0, .ptr (h.next + 1) 0, .ptr (h.next + 2) 0]] true)).get h.next = some (.cells [.ptr ic 0] true):=by
  rw [AHeap.get_set_ne _ _ (by omega),AHeap.get_push_lt _ _ (show h.next < h.next + 2 by omega),AHeap.get_push_lt _ _ (show h.next < h.next + 1 by omega),AHeap.get_push_same]
 have p1:((((h.push (.cells [.ptr ic 0] true)).push (.cells [.nils] true)).push (.cells [.nilf] true)).set (h.next + 2) (.cells [.fn (.func 227) [] [.ptr h.next 0, .ptr (h.next + 1) 0, .ptr (h.next + 2) 0]] true)).get (h.next + 1) = some (.cells [.nils] true):=by
  rw [AHeap.get_set_ne _ _ (by omega),AHeap.get_push_lt _ _ (show h.next + 1 < h.next + 2 by omega)]
  exact AHeap.get_push_same (h.push _) _
 have p2:((((h.push (.cells [.ptr ic 0] true)).push (.cells [.nils] true)).push (.cells [.nilf] true)).set (h.next + 2) (.cells [.fn (.func 227) [] [.ptr h.next 0, .ptr (h.next + 1) 0, .ptr (h.next + 2) 0]] true)).get (h.next + 2) = some (.cells [.fn (.func 227) [] [.ptr h.next 0, .ptr (h.next + 1) 0, .ptr (h.next + 2) 0]] true):=AHeap.get_set_same _ _ _
 have hx:((((h.push (.cells [.ptr ic 0] true)).push (.cells [.nils] true)).push (.cells [.nilf] true)).set (h.next + 2) (.cells [.fn (.func 227) [] [.ptr h.next 0, .ptr (h.next + 1) 0, .ptr (h.next + 2) 0]] true)).next = h.next + 3:=rfl
 simp (disch:=omega) only [RSe.down,hcl,AHeap.next_push,e1]
 generalize ((((h.push (.cells [.ptr ic 0] true)).push (.cells [.nils] true)).push (.cells [.nilf] true)).set (h.next + 2) (.cells [.fn (.func 227) [] [.ptr h.next 0, .ptr (h.next + 1) 0, .ptr (h.next + 2) 0]] true)) = h4 at g4 p0 p1 p2 hx ⊢
 have hlow:∀ j,j < h.next -> (fun j => if j = h.next + 1 then 4 * n + 1 else if 4 * n < lab j then 0 else lab j) j = (fun j => if 4 * n < lab j then 0 else lab j) j:=fun j hj => if_neg (by omega)
 have hz:∀ j,h.next <= j -> j ≠ h.next + 1 -> (fun j => if j = h.next + 1 then 4 * n + 1 else if 4 * n < lab j then 0 else lab j) j = 0:=fun j hj hne => by
  show (if j = h.next + 1 then 4 * n + 1 else if 4 * n < lab j then 0 else lab j) = 0
  rw [if_neg hne,C.new j hj]; split <;> rfl
 have C4:ChAt (fun j => if j = h.next + 1 then 4 * n + 1 else if 4 * n < lab j then 0 else lab j) h4 n ic ids c :=
  C.low.other (F:=fun _ => False) g4.chg (fun _ hf => hf.elim) hlow fun j hj => hz j (by omega) (by omega)
 generalize hlab1:(fun j => if j = h.next + 1 then 4 * n + 1 else if 4 * n < lab j then 0 else lab j) = lab1 at hlow hz C4
 have hoo:lab1 (h.next + 1) = 4 * n + 1:=by rw [<- hlab1]; exact if_pos rfl
 obtain ⟨v6,h5,f6,n6⟩:=bid hN (h:=h4) (n:=n) (by omega)
 have g5:=n6.gro
 have lim4:loadV none (.ptr (h.next + 2) 0) h4 = some (.fn (.func 227) [] [.ptr h.next 0, .ptr (h.next + 1) 0, .ptr (h.next + 2) 0]):=loadV_get p2 rfl
 have c0:Cel lab1 h4 h.next (.ptr ic 0):=⟨by omega,hz _ (Nat.le_refl _) (by omega),loadV_get p0 rfl⟩
 have c2:Cel lab1 h4 (h.next + 2) (.fn (.func 227) [] [.ptr h.next 0, .ptr (h.next + 1) 0, .ptr (h.next + 2) 0]):=⟨by omega,hz _ (by omega) (by omega),lim4⟩
 have O4:OutAt lab1 h4 n (h.next + 1) .nils [] []:=⟨p1,by omega,hoo,Own.nil,(fun j hj => by cases hj),(fun e => by cases e),rfl,fun i a p hi => by simp at hi⟩
 obtain ⟨h7,lab7,b7,cb7,f7,C7,O7,K7,hl7,hcb7⟩:=more_spec hS hn ho hc (B:=h.next) n 0 (by omega) lab1 h5 v6 (one n) .nils [] [] (C4.gro g5) n6.at_ (n6.imm C4.new) (PV.one n) (c0.gro g5) (c2.gro g5) (O4.gro g5) (by
  show ([]:List Pm).length + ordC c <= 5040
  rw [List.length_nil,Nat.zero_add]; exact hb) (fun j hj => Nat.le_trans g4.le (n6.fresh hj)) (fun a ha => by cases ha) (Nat.le_trans g4.le g5.le)
 have f7':lim otab.get I (.fn 227) ([] ++ [AV.int .i64 0,v6] ++ [.ptr h.next 0, .ptr (h.next + 1) 0, .ptr (h.next + 2) 0]) h5 = some (.tup [],h7):=f7
 have m5:=(c2.gro g5).ld
 have m7:loadV none (.ptr (h.next + 1) 0) h7 = some b7:=loadV_get O7.get rfl
 simp (disch:=omega) only [RSe.down,lim4,c0.ld,C4.deg,f6,WDV_succ,WDV_zero,WDE_some,checks,lower,recheck,AOp.cls,AV.beq_refl,cond_true,true_and,m5]
 rw [evalE_callV (g:=227) (fs:=[]) (cs:=[.ptr h.next 0, .ptr (h.next + 1) 0, .ptr (h.next + 2) 0]) rfl]
 simp (disch:=omega) only [RSe.down,f7',WDE_none,m7]
 have hlv:∀ j,j < h.next -> ¬ 4 * n < lab1 j:=fun j hj => by
  rw [hlow j hj]
  show ¬ 4 * n < if 4 * n < lab j then 0 else lab j
  split <;> omega
 refine ⟨(fun i hi => by cases hi),_,rfl,cb7,(g4.trans g5).chg_new K7 fun j hj => ?_,⟨O7.own,O7.len,fun i a p ha hp => (O7.el i a p ha hp).1⟩,fun j hj => ?_,hcb7⟩
 ·refine Nat.le_of_not_lt fun hlt => hlv j hlt ?_
  have h1:=hj.1
  have h2:=hj.2
  omega
 ·refine Nat.le_of_not_lt fun hlt => hlv j hlt ?_
  have h1:=O7.lb j hj
  rw [hl7 j (by have:=g5.le; omega)] at h1
  omega
end
end Go.AM
namespace Go.AM
open Go Go.GT
def bc (n:Nat) (f:Nat -> Bool):List AV:=tbl n fun j => .bool (f j)
theorem bc_len {n:Nat} {f:Nat -> Bool}:(bc n f).length = n:=tbl_len
theorem bc_get {n:Nat} {f:Nat -> Bool} {k:Nat} (hk:k < n):(bc n f)[k]? = some (.bool (f k)):=tbl_get hk
def bl (n:Nat) (f:Nat -> Bool):Pm:=(List.range n).filter f
end Go.AM
namespace Go.AM
open Go Go.GT
section
variable {C:CallT} {K:List Fr} {Q:AX -> St -> Prop}
def WDA (C:CallT) (v:Option (AObj × AV)) (d:Option Nat) (r:List (AOper × Nat)) (ps:List ((AHeap -> Bool) × Nat)) (K:List Fr) (tm:List AV) (h:AHeap) (Q:AX -> St -> Prop):Prop:=match v with
 | some (b,v) => WDs C r ps K ⟨putD tm d v,h.push b⟩ Q
 | none => False
theorem WDA_some {b:AObj} {v:AV} {d:Option Nat} {r:List (AOper × Nat)} {ps:List ((AHeap -> Bool) × Nat)} {tm:List AV} {h:AHeap}:WDA C (some (b,v)) d r ps K tm h Q ↔ WDs C r ps K ⟨putD tm d v,h.push b⟩ Q:=Iff.rfl
theorem WDs_a0 {op:AOp} {d:Option Nat} {r:List (AOper × Nat)} {ps:List ((AHeap -> Bool) × Nat)} {tm:List AV} {h:AHeap} (hc:op.cls = .a):WDs C ((⟨d,op,none⟩,0) :: r) ps K ⟨tm,h⟩ Q ↔ WDA C (evalA op tm h) d r ps K tm h Q:=by
 unfold WDs
 rw [runDraw_cons,if_pos (show wanted tm none = true from rfl),step1_a hc]
 unfold WDA
 dsimp only
 cases evalA op tm h with
 | none => simp
 | some v => simp only [hc]; exact Iff.rfl
theorem WDs_bslice0 {d:Option Nat} {r:List (AOper × Nat)} {ps:List ((AHeap -> Bool) × Nat)} {tm:List AV} {h:AHeap} (n sz:Nat) (z:List AV) (qs:List (Nat × AOpd)):WDs C ((⟨d,(.bslice n sz z qs),none⟩,0) :: r) ps K ⟨tm,h⟩ Q ↔ WDA C (evalA (.bslice n sz z qs) tm h) d r ps K tm h Q:=WDs_a0 rfl
end
def Small28 (d:Int) (ls:List (List Int)):Prop:=SmallG d ls /\ Fits d.toNat (gS ls) 24
noncomputable instance (d:Int) (ls:List (List Int)):Decidable (Small28 d ls):=Classical.propDecidable _
end Go.AM
namespace Go.AM
open Go Go.GT
def sv (a b:Nat):AV := .agg [.int .u64 (a:Int), .int .u64 (b:Int)]
end Go.AM
namespace Go.AM
open Go Go.GT
theorem loadV_two {h:AHeap} {i:Nat} {x y:AV} {r:Bool} (hg:h.get i = some (.cells [x,y] r)):loadV (some 2) (.ptr i 0) h = some (.agg [x,y]):=by
 show (match cellsOf h i with | some c => fit (some 2) 0 c | none => none) = _
 rw [cellsOf_get hg]; rfl
theorem result_cell {tm:List AV} {h:AHeap} {k:Nat} {n:Option Nat} {i o:Nat} {v:AV} (e:nth tm k = .ptr i o) (hl:loadV n (.ptr i o) h = some v):result [.cell k n] tm h = some v:=by
 have h1:resOf tm h (.cell k n) = some v:=by
  show (match nth tm k with | .ptr i o => (match cellsOf h i with | some c => fit n o c | none => none) | _ => none) = _
  rw [e]; exact hl
 have h2:resOfs tm h [.cell k n] = some [v]:=by
  show (match resOf tm h (.cell k n),(some []:Option (List AV)) with | some v,some vs => some (v :: vs) | _,_ => none) = _
  rw [h1]
 unfold result
 rw [h2]
theorem stV_two {h:AHeap} {i:Nat} {x y u v:AV} (hg:h.get i = some (.cells [u,v] true)) (hx:x.scalar = true) (hy:y.scalar = true):stV 2 (.ptr i 0) (.agg [x,y]) h = some (aundef,h.set i (.cells [x,y] true)):=by
 have ho:ownOf h i = some [u,v]:=by unfold ownOf; rw [hg]
 show (match ownOf h i with | some c => if (AV.agg [x,y]).cells.length = 2 /\ (AV.agg [x,y]).cells.all AV.scalar = true then match lay c 0 (AV.agg [x,y]).cells with | some c' => some (aundef,h.set i (.cells c' true)) | none => none else none | none => none) = _
 rw [ho]
 have hc:(AV.agg [x,y]).cells = [x,y]:=rfl
 have hs:[x,y].all AV.scalar = true:=by simp [hx,hy]
 simp only [hc]
 rw [if_pos ⟨rfl,hs⟩]; rfl
end Go.AM
namespace Go.AM
open Go Go.GT
section
variable {I:Oracle} (hNo:NoI I) {h:AHeap}
include hNo
theorem chain_spec {n : Nat} (hn : n <= 20) {vS : AV} {S : List Pm} (hS : PmsAt h vS S) (hG : ∀ s ∈ S, PV n s) (hL : S.length <= 1000000) (hB : Bnd n S 5040) :
  ∃ ic h' lab ids c,lim otab.get I (.fn 117) [.agg [.int .i64 (n:Int),vS]] h = some (.ptr ic 0,h') /\ Chain n S S lab h' ic ids c /\ Gro h h' /\ h.next <= ic:=by
 have g1:=Gro.push h (.cells [.int .i64 (n:Int),vS] true)
 obtain ⟨ic,h2,lab,ids,c,f,C,g,hic⟩:=cnew_spec hNo hn (hS.gro g1) hG hL hB
 have b0:=box_ld (h:=h) (c:=[.int .i64 (n:Int),vS]) (r:=true) (Gro.refl _) (o:=0) (x := .int .i64 (n:Int)) rfl
 have b1:=box_ld (h:=h) (c:=[.int .i64 (n:Int),vS]) (r:=true) (Gro.refl _) (o:=1) (x:=vS) rfl
 refine (lim_walk_ex (T:=otab.get) (I:=I) (f:=117) (fn:=of117) rfl (a:=[.agg [.int .i64 (n:Int),vS]]) (h:=h) (P:=fun v h' => v = .ptr ic 0 /\ h' = h2) (hNo.at _ _ (by decide) (by decide) (by decide)) ?_) |> fun ⟨v,h',e,q1,q2⟩ => ⟨ic,h2,lab,ids,c,by rw [e,q1,q2],C,g1.trans g,Nat.le_trans g1.le hic⟩
 show WK _ _ [] ⟨[.agg [.int .i64 (n:Int),vS],aundef],h⟩ _
 dsimp only [of117,Z.t,Z.f,Z.i,Z.q,Z.m,Z.l,Z.b,Z.c,Z.w]
 simp (disch:=omega) only [RSe.down,b0,b1,f]
 exact ⟨(fun i hi => by cases hi),_,rfl,rfl,trivial⟩
theorem porder_spec {vg : AV} {ls : List (List Int)} (hg : LsAt h vg ls) (d : Int) (hB : groupErr d ls = 0 -> Bnd d.toNat (gS ls) 5040) :
  ∃ k h',lim otab.get I (.fn 50) [.agg [.int .i64 d,vg]] h = some (.tup [.int .i64 ((k:Nat):Int), .int .i64 (groupErr d ls)],h') /\ Gro h h' /\ (groupErr d ls ≠ 0 -> k = 0) /\ (groupErr d ls = 0 -> ∀ l,IsEl d.toNat (gS ls) l -> k = l.length):=by
 have g1:=Gro.push h (.cells [.int .i64 d,vg] true)
 have ba:=fun {h'} (g:Gro _ h') => box_all (h:=h) (c:=[.int .i64 d,vg]) (r:=true) (h':=h') g (n:=2) rfl
 obtain ⟨h2,e2,g2⟩:=gcheck hNo (hg.gro g1) d
 have b1:=ba (Gro.refl _)
 have b2:=ba g2
 refine (lim_walk_ex (T:=otab.get) (I:=I) (f:=50) (fn:=of50) rfl (a:=[.agg [.int .i64 d,vg]]) (h:=h) (P:=fun v h' => ∃ k:Nat,v = .tup [.int .i64 ((k:Nat):Int), .int .i64 (groupErr d ls)] /\ Gro h h' /\ (groupErr d ls ≠ 0 -> k = 0) /\ (groupErr d ls = 0 -> ∀ l,IsEl d.toNat (gS ls) l -> k = l.length)) (hNo.at _ _ (by decide) (by decide) (by decide)) ?_) |> fun ⟨v,h',e,k,q1,q2⟩ => ⟨k,h',by rw [e,q1],q2⟩
 show WK _ _ [] ⟨[.agg [.int .i64 d,vg],aundef,aundef],h⟩ _
 dsimp only [of50,Z.t,Z.f,Z.i,Z.q,Z.m,Z.l,Z.b,Z.c,Z.w]
 by_cases hc:groupErr d ls = 0
 ·rw [hc] at e2
  obtain ⟨n,rfl,hn,hl32,hls,hS⟩:=group_of_ok hc
  have hp:=((hg.gro g1).gro g2).pms hls
  obtain ⟨ic,h3,lab,ids,c,f3,C,g3,hic⟩:=chain_spec hNo hn hp hS (by unfold gS; rw [List.length_map]; omega) (hB hc)
  have f4:=corder_spec hNo C hn hS (hB hc)
  simp (disch:=omega) only [RSe.down,b1,e2,b2,f3,f4,neqF]
  refine ⟨(fun i hi => by cases hi),_,rfl,ordC c,by rw [hc]; rfl,g1.trans (g2.trans g3),fun hne => absurd hc hne,fun _ l hl => ?_⟩
  have hl':IsEl n (gS ls) l:=hl
  have hn1:(els c 0 (one n)).Nodup:=(asc_els C.ok (PV.one n)).nodup
  rw [<- length_els (ls:=c) (k:=0) (u:=one n)]
  refine nodup_eq_len hn1 hl'.asc.nodup fun q => ?_
  rw [hl'.mem,mem_els C.ok (PV.one n)]
  constructor
  ·rintro ⟨s,s1,s2,s3,rfl⟩
   rw [s1.mul_one]; exact (C.iff s1).1 s3
  ·intro hq
   have hqv:=hq.pv hS
   exact ⟨q,hqv,Fx.zero,(C.iff hqv).2 hq,hqv.mul_one.symm⟩
 ·simp (disch:=omega) only [RSe.down,b1,e2,neqT]
  exact ⟨(fun i hi => by cases hi),_,rfl,0,rfl,g1.trans g2,fun _ => rfl,fun h0 => absurd h0 hc⟩
end
end Go.AM
namespace Go.AM
open Go Go.GT
theorem PmsAt.gro' {h h':AHeap} {v:AV} {S:List Pm} (s:PmsAt h v S) (g:Gro h h'):PmsAt h' v S:=LAt.gro (P:=PmAt) (fun _ _ _ _ s g => SlAt.gro s g) s g
end Go.AM
namespace Go.AM
open Go Go.GT
def ws (H:List Nat):AV:=sv (wd H) 0
def c2 (L:List (List Nat)):List AV:=cells2 (L.map ws)
end Go.AM
namespace Go.AM
open Go Go.GT Go.ChangeShapes Go.WideShapes Go.ChangeAt Go.RowKit Go.Joins Go.Proofs
section
variable {H:Type} {enc:TypeId × Value -> H} {P:Program}
theorem trodAll_stays (hl:laidOutB P = true) {W W':World} {sp:Nat -> Bool}:∀ {ts:List TypeId} {vs:List Value} {ds:List (DataW H)} {ps:List MemPlace},(∀ t ∈ ts,P.readableRec t = true /\ t < P.types.size) -> DataW.TrodAll enc P W 0 (fun _ => true) true ts vs ds ps -> (∀ p ∈ ps,W.sameAt W' p) -> (∀ p ∈ ps,sp p.block = true) -> DataW.TrodAll enc P W' 0 sp true ts vs ds ps
 | [],vs,ds,ps,_,h,_,_ => by
  obtain ⟨rfl,rfl,rfl⟩:=trodAll_nil h
  exact trodAll_mk0
 | t :: ts,vs,ds,ps,hr,h,hsame,hs => by
  obtain ⟨v,vs',d,ds',p,q,rfl,rfl,rfl,h0,r0⟩:=trodAll_cons h
  have h1:=hr t (.head _)
  exact trodAll_cons_mk (WideElems.Trod_stays hl h1.1 h1.2 h0 (fun x hx => hsame x (List.mem_append.2 (.inl hx))) fun x hx => hs x (List.mem_append.2 (.inl hx)))
   (trodAll_stays hl (fun t' ht => hr t' (.tail _ ht)) r0 (fun x hx => hsame x (List.mem_append.2 (.inr hx))) fun x hx => hs x (List.mem_append.2 (.inr hx)))
end
section
variable {H:Type} {enc:TypeId × Value -> H} {w:World} {ρ:Rho} {h:AHeap}
theorem cells3:Tryz.prog.cellsOf 3 = 1:=by kernel_rfl
theorem laid:laidOutB Tryz.prog = true:=by kernel_rfl
theorem ints_in (hI : InitH Tryz.prog ρ h w) {t : TypeId} (ht : Tryz.prog.underlying t = some (.slice 3)) {v : Value} {d : DataW H} {p : List MemPlace} {r : Reach} {b0 : Nat} (hv : Value.okWide Tryz.prog w r b0 t v) (h0 : DataW.Trod enc Tryz.prog w 0 (fun _ => true) true t v d p) :
  ∃ ρ' h' av l,Ext ρ ρ' /\ InitH Tryz.prog ρ' h' w /\ Gro h h' /\ VR ρ' av v /\ IAt h' av l:=by
 obtain ⟨a,len,cap,rfl⟩:=okWide_slice ht hv
 obtain ⟨n,hn⟩:=h0
 obtain ⟨ρ',h',av,l,h1,h2,h3,h4,h5,_⟩:=hI.ints ht Tryz.underlying3 cells3 hn
 exact ⟨ρ',h',av,l,h1,h2,h3,h4,h5⟩
end
end Go.AM
namespace Go.AM
open Go Go.GT
theorem bytes_tbl {n:Nat} {f:Nat -> Nat} (h:∀ j,j < n -> f j < 256):bytesOf (tbl n fun j => .int .u8 (f j:Int)) = some ((List.range n).map f):=by
 have key:∀ l:List Nat,(∀ j ∈ l,f j < 256) -> bytesOf (l.map fun j => AV.int .u8 (f j:Int)) = some (l.map f):=fun l => by
  induction l with
  | nil => intro _; rfl
  | cons a l ih =>
   intro hl
   have h1:=ih fun j hj => hl j (.tail _ hj)
   rw [List.map_cons,List.map_cons]
   show (match bytesOf (l.map fun j => AV.int .u8 (f j:Int)) with | some l => some ((f a:Int).toNat % 256 :: l) | none => none) = _
   rw [h1,Int.toNat_natCast,Nat.mod_eq_of_lt (hl a (.head _))]
 exact key _ fun j hj => h j (List.mem_range.1 hj)
section
variable {I:Oracle} {h:AHeap} {va:AV} {p:Pm} {n f:Nat}
theorem key_fn (hf:otab.get f = some of201) (hI:∀ a h,I f a h = none) (ha:PmAt h va p) (hp:PV n p) (hn:n <= 20):∃ h',lim otab.get I (.fn f) [va] h = some (.str p,h') /\ Gro h h':=by
 refine (lim_walk_ex (T:=otab.get) (I:=I) (f:=f) (fn:=of201) hf (a:=[va]) (h:=h) (P:=fun a h' => a = .str p /\ Gro h h') (hI _ _) ?_) |> fun ⟨a,h',e,q1,q2⟩ => ⟨h',by rw [e,q1],q2⟩
 show WK _ _ [] ⟨[va,aundef,aundef,aundef,aundef,aundef],h⟩ _
 dsimp only [of201,Z.t,Z.f,Z.i,Z.q,Z.m,Z.l,Z.b,Z.c,Z.w]
 have hlen:∀ {h':AHeap},lenV 1 va h' = some (.int .i64 (n:Int)):=fun {h'} => by rw [ha.len,hp.len]
 simp (disch:=omega) only [RSe.down,hlen,mkslV_nat]
 have q0:(h.push (.cells (repl n [.int .u8 0]) true)).get h.next = some (.cells (tbl n fun j => .int .u8 ((if j < 0 then ap p j else 0:Nat):Int)) true):=by
  rw [AHeap.get_push_same,tbl_repl]; congr 2
 refine WK_loopJ (fun k s => k <= n /\ ∃ y2 y3 h',s = ⟨[va, .int .i64 (k:Int),y2,y3, .slice h.next 0 n (.exact n), .int .i64 (n:Int)],h'⟩ /\ Gro h h' /\ h.next < h'.next /\ h'.get h.next = some (.cells (tbl n fun j => .int .u8 ((if j < k then ap p j else 0:Nat):Int)) true)) n
  ⟨Nat.zero_le _,_,_,_,rfl,Gro.push h _,Nat.lt_succ_self _,q0⟩ ?_
 rintro k hk _ ⟨_,y2,y3,h',rfl,g,hx,q⟩ next
 by_cases hkn:k < n
 ·have hkp:k < p.length:=by rw [hp.len]; exact hkn
  have i1:=(ha.gro g).iaddr (q := .i64) hkp
  have i2:=(ha.gro g).load hkp
  have hlt:=hp.ap_lt hkn
  have e1:toIntV .u8 (.int .i64 (ap p k:Int)) = some (.int .u8 (ap p k:Int)):=by
   show some (AV.int .u8 ((ap p k:Int) % 256)) = _
   rw [Int.emod_eq_of_lt (by omega) (by omega)]
  have e2:=stV_tbl (x := .int .u8 (ap p k:Int)) q hkn rfl
  simp (disch:=omega) only [RSe.down,lssT,i1,i2,e1,iaddrS,e2,add1N]
  refine next hkn _ ⟨by omega,_,_,_,rfl,g.set (Nat.le_refl _) _,hx,?_⟩
  rw [AHeap.get_set_same]
  congr 2
  refine tbl_congr fun j _ => ?_
  by_cases ej:j = k
  ·rw [if_pos ej,ej,if_pos (Nat.lt_succ_self _)]
  ·rw [if_neg ej]
   by_cases hj:j < k
   ·rw [if_pos hj,if_pos (by omega)]
   ·rw [if_neg hj,if_neg (by omega)]
 ·obtain rfl:k = n:=by omega
  have hb:bytesOf (tbl k fun j => .int .u8 ((if j < k then ap p j else 0:Nat):Int)) = some p:=by
   rw [bytes_tbl fun j hj => by rw [if_pos hj]; have:=hp.ap_lt hj; omega]
   congr 1
   refine List.ext_getElem? fun j => ?_
   by_cases hj:j < k
   ·rw [List.getElem?_map,List.getElem?_range hj,get?_ap (by rw [hp.len]; exact hj)]
    show some (if j < k then ap p j else 0) = _
    rw [if_pos hj]
   ·rw [List.getElem?_eq_none (by rw [List.length_map,List.length_range]; omega),List.getElem?_eq_none (by rw [hp.len]; omega)]
  have hc:cut (tbl k fun j => AV.int .u8 ((if j < k then ap p j else 0:Nat):Int)) 0 k = some (tbl k fun j => AV.int .u8 ((if j < k then ap p j else 0:Nat):Int)):=by
   have:=cut_all (tbl k fun j => AV.int .u8 ((if j < k then ap p j else 0:Nat):Int))
   rwa [tbl_len] at this
  have et:∀ tm:List AV,nth tm 4 = .slice h.next 0 k (.exact k) -> evalQ (.toStr (.tmp 4)) tm h' = some (.str p):=fun tm e => by
   show (match ev tm (.tmp 4) with
    | .nils => some (AV.str [])
    | .slice i o n _ => match cellsOf h' i with
     | some c => match cut c o n with
      | some r => match bytesOf r with | some l => some (AV.str l) | none => none
      | none => none
     | none => none
    | _ => none) = _
   rw [ev_tmp,e]
   dsimp only
   rw [cellsOf_get q]
   dsimp only
   rw [hc]
   dsimp only
   rw [hb]
  simp (disch:=omega) only [RSe.down,lssF]
  rw [et _ rfl]
  simp (disch:=omega) only [RSe.down]
  exact ⟨(fun i hi => by cases hi),_,rfl,rfl,g⟩
end
section
variable {I:Oracle} (hNo:NoI I) {h:AHeap} {va:AV} {p:Pm} {n:Nat}
include hNo
theorem jkey_spec (ha:PmAt h va p) (hp:PV n p) (hn:n <= 20):∃ h',lim otab.get I (.fn 139) [va] h = some (.str p,h') /\ Gro h h' :=
 key_fn rfl (fun _ _ => hNo.at _ _ (by decide) (by decide) (by decide)) ha hp hn
end
end Go.AM
namespace Go.AM
open Go Go.GT
section
variable {n:Nat} {a b p q x y:Pm}
theorem cj_ext {c d:Pm} (pc:PV n c) (pd:PV n d) (px:PV n x) (h:∀ i,i < n -> ap c (ap x i) = ap d (ap x i)):c = d :=
 pc.ext pd fun j hj => by
  obtain ⟨i,hi,rfl⟩:=px.surj hj
  exact h i hi
theorem cj_one (pa:PV n a):cj a (one n) = a:=by
 unfold cj; rw [PV.inv_one,pa.one_mul,pa.mul_one]
theorem cj_mul (pa:PV n a) (px:PV n x) (py:PV n y):cj a (mul x y) = cj (cj a x) y :=
 cj_ext (PV.cj pa (px.mul py)) (PV.cj (PV.cj pa px) py) (px.mul py) fun i hi => by
  rw [ap_cj pa (px.mul py) hi,px.ap_mul hi,px.ap_mul (pa.ap_lt hi),ap_cj (PV.cj pa px) py (px.ap_lt hi),ap_cj pa px hi]
theorem cj_hom (pa:PV n a) (pb:PV n b) (px:PV n x):cj (mul a b) x = mul (cj a x) (cj b x) :=
 cj_ext (PV.cj (pa.mul pb) px) ((PV.cj pa px).mul (PV.cj pb px)) px fun i hi => by
  rw [ap_cj (pa.mul pb) px hi,pa.ap_mul hi,(PV.cj pa px).ap_mul (px.ap_lt hi),ap_cj pa px hi,ap_cj pb px (pa.ap_lt hi)]
theorem one_cj (px:PV n x):cj (one n) x = one n :=
 cj_ext (PV.cj (PV.one n) px) (PV.one n) px fun i hi => by
  rw [ap_cj (PV.one n) px hi,ap_one hi,ap_one (px.ap_lt hi)]
theorem cj_inv_back (pa:PV n a) (px:PV n x):cj (cj a x) (inv x) = a:=by
 rw [<- cj_mul pa px px.inv,px.mul_inv,cj_one pa]
end
def addP (L:List Pm) (q:Pm):List Pm:=if q ∈ L then L else putL L q
theorem addP_in {L:List Pm} {q:Pm} (h:q ∈ L):addP L q = L:=if_pos h
theorem addP_out {L:List Pm} {q:Pm} (h:q ∉ L):addP L q = putL L q:=if_neg h
theorem mem_addP {L:List Pm} {q r:Pm}:r ∈ addP L q ↔ r = q \/ r ∈ L:=by
 by_cases h:q ∈ L
 ·rw [addP_in h]
  exact ⟨.inr,fun hh => hh.elim (fun e => e ▸ h) id⟩
 ·rw [addP_out h]; exact mem_putL
theorem asc_addP {L:List Pm} {q:Pm} (h:Asc L):Asc (addP L q):=by
 by_cases hq:q ∈ L
 ·rw [addP_in hq]; exact h
 ·rw [addP_out hq]; exact h.putL hq
theorem mem_foldP {r:Pm}:∀ {M L:List Pm},r ∈ M.foldl addP L ↔ r ∈ M \/ r ∈ L
 | [],L => by simp
 | q :: M,L => by
  rw [List.foldl_cons,mem_foldP,mem_addP,List.mem_cons]
  constructor
  ·rintro (h | h | h)
   ·exact .inl (.inr h)
   ·exact .inl (.inl h)
   ·exact .inr h
  ·rintro ((h | h) | h)
   ·exact .inr (.inl h)
   ·exact .inl h
   ·exact .inr (.inr h)
theorem asc_foldP:∀ {M L:List Pm},Asc L -> Asc (M.foldl addP L)
 | [],_,h => h
 | q :: M,L,h => asc_foldP (M:=M) (L:=addP L q) (asc_addP h)
theorem len_foldP:∀ {M L:List Pm},(M.foldl addP L).length <= M.length + L.length
 | [],L => by simp
 | q :: M,L => by
  rw [List.foldl_cons]
  have h1:=len_foldP (M:=M) (L:=addP L q)
  have h2:(addP L q).length <= L.length + 1:=by
   by_cases hq:q ∈ L
   ·rw [addP_in hq]; omega
   ·rw [addP_out hq,length_putL]; omega
  rw [List.length_cons]; omega
def ccl (l:List Pm) (p:Pm):List Pm:=(l.map (cj p)).foldl addP []
theorem mem_ccl {l:List Pm} {p q:Pm}:q ∈ ccl l p ↔ ∃ x ∈ l,cj p x = q:=by
 unfold ccl; rw [mem_foldP,List.mem_map]; simp
theorem asc_ccl {l:List Pm} {p:Pm}:Asc (ccl l p):=asc_foldP List.Pairwise.nil
theorem len_ccl {l:List Pm} {p:Pm}:(ccl l p).length <= l.length:=by
 have:=len_foldP (M:=l.map (cj p)) (L:=[])
 rw [List.length_map] at this
 unfold ccl; simpa using this
def crep (l:List Pm) (p:Pm):Pm:=(ccl l p).headD []
def repB (l:List Pm) (p:Pm):Bool:=crep l p == p
def reps (l:List Pm):List Pm:=l.filter (repB l)
def repsTo (l:List Pm) (k:Nat):List Pm:=(l.take k).filter (repB l)
def cno (l:List Pm) (p:Pm):Nat:=(reps l).idxOf (crep l p)
def ri (l:List Pm) (p:Pm):Nat:=place l (crep l p)
section
variable {n:Nat} {S l:List Pm} (hS:∀ s ∈ S,PV n s) (h:IsEl n S l)
include hS h
theorem el_pv {p:Pm} (hp:p ∈ l):PV n p:=((h.mem p).1 hp).pv hS
omit hS in
theorem el_one:one n ∈ l:=(h.mem _).2 .one
theorem el_mul {p q:Pm} (hp:p ∈ l) (hq:q ∈ l):mul p q ∈ l:=(h.mem _).2 (((h.mem p).1 hp).mul' hS ((h.mem q).1 hq))
theorem el_inv {p:Pm} (hp:p ∈ l):inv p ∈ l:=(h.mem _).2 (((h.mem p).1 hp).inv hS)
theorem el_cj {p q:Pm} (hp:p ∈ l) (hq:q ∈ l):cj p q ∈ l:=el_mul hS h (el_mul hS h (el_inv hS h hq) hp) hq
omit hS in
theorem ccl_refl {p:Pm} (hp:PV n p):p ∈ ccl l p:=mem_ccl.2 ⟨one n,el_one h,cj_one hp⟩
theorem ccl_sub {p q:Pm} (hp:p ∈ l) (hq:q ∈ ccl l p):q ∈ l:=by
 obtain ⟨x,hx,rfl⟩:=mem_ccl.1 hq
 exact el_cj hS h hp hx
theorem ccl_eq {p q:Pm} (hp:PV n p) (hq:q ∈ ccl l p):ccl l q = ccl l p:=by
 obtain ⟨x,hx,rfl⟩:=mem_ccl.1 hq
 have px:=el_pv hS h hx
 refine asc_ccl.unique asc_ccl fun r => ?_
 rw [mem_ccl,mem_ccl]
 constructor
 ·rintro ⟨y,hy,rfl⟩
  exact ⟨mul x y,el_mul hS h hx hy,cj_mul hp px (el_pv hS h hy)⟩
 ·rintro ⟨y,hy,rfl⟩
  refine ⟨mul (inv x) y,el_mul hS h (el_inv hS h hx) hy,?_⟩
  rw [cj_mul (PV.cj hp px) px.inv (el_pv hS h hy),cj_inv_back hp px]
omit hS in
theorem ccl_ne {p:Pm} (hp:PV n p):ccl l p ≠ []:=fun e => by
 have:=ccl_refl h hp
 rw [e] at this; cases this
omit hS in
theorem ccl_head {p:Pm} (hp:PV n p):(ccl l p)[0]? = some (crep l p):=by
 unfold crep
 have:=ccl_ne h hp
 cases e:ccl l p with
 | nil => exact absurd e this
 | cons a r => rfl
omit hS in
theorem crep_mem {p:Pm} (hp:PV n p):crep l p ∈ ccl l p:=List.mem_of_getElem? (ccl_head h hp)
omit hS in
theorem crep_le {p q:Pm} (hp:PV n p) (hq:q ∈ ccl l p):lex q (crep l p) = false:=by
 obtain ⟨j,hj⟩:=List.mem_iff_getElem?.1 hq
 have h0:=ccl_head h hp
 rcases Nat.eq_zero_or_pos j with rfl | hpos
 ·rw [h0] at hj; cases hj; exact lex_irr _
 ·exact lex_asymm (asc_ccl.lt hpos h0 hj)
theorem crep_eq {p q:Pm} (hp:PV n p) (hq:q ∈ ccl l p):crep l q = crep l p:=by
 unfold crep; rw [ccl_eq hS h hp hq]
theorem crep_iff {p q:Pm} (hp:PV n p) (hq:PV n q):crep l q = crep l p ↔ q ∈ ccl l p:=by
 refine ⟨fun e => ?_,crep_eq hS h hp⟩
 have h1:=crep_mem h hp
 rw [<- e] at h1
 have h2:=crep_mem h hq
 rw [<- ccl_eq hS h hp h1,ccl_eq hS h hq h2]
 exact ccl_refl h hq
theorem crep_crep {p:Pm} (hp:PV n p):crep l (crep l p) = crep l p:=crep_eq hS h hp (crep_mem h hp)
theorem crep_el {p:Pm} (hp:p ∈ l):crep l p ∈ l:=ccl_sub hS h hp (crep_mem h (el_pv hS h hp))
theorem crep_rep {p:Pm} (hp:PV n p):repB l (crep l p) = true:=by
 unfold repB; rw [crep_crep hS h hp]; exact beq_self_eq_true _
omit hS h in
theorem mem_reps {r:Pm}:r ∈ reps l ↔ r ∈ l /\ crep l r = r:=by
 unfold reps repB; rw [List.mem_filter,beq_iff_eq]
theorem ri_get {p:Pm} (hp:p ∈ l):l[ri l p]? = some (crep l p):=h.asc.mem_iff.1 (crep_el hS h hp)
theorem ri_lt {p:Pm} (hp:p ∈ l):ri l p < l.length:=(List.getElem?_eq_some_iff.1 (ri_get hS h hp)).1
theorem ri_le {p:Pm} {k:Nat} (hk:l[k]? = some p):ri l p <= k:=by
 have hp:=List.mem_of_getElem? hk
 have pp:=el_pv hS h hp
 have h1:=ri_get hS h hp
 rcases Nat.lt_or_ge k (ri l p) with hlt | hge
 ·have:=h.asc.lt hlt hk h1
  rw [crep_le h pp (ccl_refl h pp)] at this; cases this
 ·exact hge
theorem ri_rep {p:Pm} {k:Nat} (hk:l[k]? = some p):repB l p = true ↔ ri l p = k:=by
 have hp:=List.mem_of_getElem? hk
 unfold repB; rw [beq_iff_eq]
 constructor
 ·intro e
  unfold ri; rw [e]; exact h.asc.place_get hk
 ·intro e
  have h1:=ri_get hS h hp
  rw [e,hk] at h1; exact (Option.some.inj h1).symm
theorem ri_class {p q:Pm} (hp:PV n p) (hq:q ∈ ccl l p):ri l q = ri l p:=by unfold ri; rw [crep_eq hS h hp hq]
theorem ri_iff {p q:Pm} (hp:p ∈ l) (hq:q ∈ l):ri l q = ri l p ↔ q ∈ ccl l p:=by
 rw [<- crep_iff hS h (el_pv hS h hp) (el_pv hS h hq)]
 constructor
 ·intro e
  have h1:=ri_get hS h hp
  have h2:=ri_get hS h hq
  rw [e,h1] at h2; exact (Option.some.inj h2).symm
 ·intro e; unfold ri; rw [e]
omit hS h in
theorem repsTo_succ {k:Nat} {p:Pm} (hk:l[k]? = some p):repsTo l (k + 1) = repsTo l k ++ if repB l p = true then [p] else []:=by
 have e:l.take (k + 1) = l.take k ++ [p]:=by rw [List.take_add_one,hk]; rfl
 unfold repsTo; rw [e,List.filter_append,List.filter_cons,List.filter_nil]
omit hS h in
theorem repsTo_all:repsTo l l.length = reps l:=by unfold repsTo reps; rw [List.take_length]
omit hS h in
theorem repsTo_len {k:Nat}:(repsTo l k).length <= k:=by
 unfold repsTo
 have:=List.length_filter_le (repB l) (l.take k)
 rw [List.length_take] at this; omega
omit hS in
theorem reps_nd:(reps l).Nodup:=h.asc.nodup.filter _
omit hS h in
theorem reps_len:(reps l).length <= l.length:=List.length_filter_le _ _
theorem cno_class {p q:Pm} (hp:PV n p) (hq:q ∈ ccl l p):cno l q = cno l p:=by unfold cno; rw [crep_eq hS h hp hq]
omit hS in
theorem cno_of {r:Pm} {i:Nat} (hi:(reps l)[i]? = some r):cno l r = i:=by
 have hr:=mem_reps.1 (List.mem_of_getElem? hi)
 unfold cno; rw [hr.2]
 have hlt:=(List.getElem?_eq_some_iff.1 hi).1
 have h1:(reps l).idxOf r < (reps l).length:=List.idxOf_lt_length_of_mem (List.mem_of_getElem? hi)
 have h2:(reps l)[(reps l).idxOf r]? = some r:=by rw [List.getElem?_eq_getElem h1,List.getElem_idxOf]
 exact (List.getElem?_inj h1 (reps_nd h)).1 (by rw [h2,hi])
omit hS in
theorem cno_new {p:Pm} {k:Nat} (hk:l[k]? = some p) (hr:repB l p = true):cno l p = (repsTo l k).length:=by
 have e:(reps l)[(repsTo l k).length]? = some p:=by
  have h1:reps l = repsTo l k ++ (l.drop k).filter (repB l):=by
   unfold reps repsTo; rw [<- List.filter_append,List.take_append_drop]
  have h2:l.drop k = p :: l.drop (k + 1):=List.drop_eq_getElem?_toList_append (l:=l) (i:=k) |>.trans (by rw [hk]; rfl)
  rw [h1,List.getElem?_append_right (Nat.le_refl _),Nat.sub_self,h2,List.filter_cons,if_pos hr]; rfl
 exact cno_of h e
end
end Go.AM
namespace Go.AM
open Go Go.GT
def cl0:ACode := .ops [⟨some 4, .mov (.lit .nils),none⟩]
def cl1:ACode := .ops [⟨some 12, .mkmap,none⟩,⟨some 5, .mov (.tmp 12),none⟩]
def cl2:ACode := .seq (.ops [⟨some 13, .mov (.tmp 0),none⟩,⟨some 14, .len 1 (.tmp 13),none⟩,⟨some 15, .mov (.lit (.int .i64 0)),none⟩])
 (.block 0 (.loop (.seq (.ops [⟨some 16, .bin .lss .no (.tmp 15) (.tmp 14),none⟩])
  (.seq (.cond (.tmp 16) .skip (.exit 0))
   (.seq (.block 1 (.seq (.ops [⟨some 17, .iaddr none 1 (.tmp 13) (.tmp 15),none⟩,⟨some 18, .load none (.tmp 17),none⟩,⟨some 7, .mov (.tmp 18),none⟩])
    (.seq (.ops [⟨some 19, .mov (.tmp 1),none⟩,⟨some 20, .mov (.tmp 7),none⟩,⟨some 21, .call (.lit (.fn (.func 151) [] [])) [.tmp 19, .tmp 20],none⟩,⟨some 8, .mov (.tmp 21),none⟩])
     (.ops [⟨some 22, .mov (.tmp 5),none⟩,⟨some 23, .mov (.tmp 8),none⟩,⟨some 24, .call (.lit (.fn (.func 139) [] [])) [.tmp 23],none⟩,⟨some 25, .mov (.tmp 8),none⟩,⟨none, .mupd (.one 2) (.tmp 22) (.tmp 24) (.tmp 25),none⟩]))))
    (.ops [⟨some 26, .bin .add .no (.tmp 15) (.lit (.int .i64 1)),none⟩,⟨some 15, .mov (.tmp 26),none⟩]))))))
def cl3:ACode := .ops [⟨some 9, .mov (.lit .nils),none⟩]
def clM:AOper:=⟨some 27, .mov (.tmp 5),none⟩
def clX:AOper:=⟨some 30, .extr 0 (.tmp 29),none⟩
def clA:List AOper:=[⟨some 32, .extr 1 (.tmp 31),none⟩,⟨some 11, .mov (.tmp 32),none⟩]
def clB:ACode := .ops [⟨some 33, .mov (.tmp 9),none⟩,⟨some 34, .mov (.tmp 11),none⟩,⟨some 35, .bslice 1 1 [.nils] [(0, .tmp 34)],none⟩,⟨some 36, .append 1 24 [.nils] (.tmp 33) (.tmp 35),none⟩,⟨some 9, .mov (.tmp 36),none⟩]
def cl4:ACode := .seq (.ops [⟨some 37, .mov (.tmp 9),none⟩,⟨some 38, .call (.lit (.fn (.func 159) [] [])) [.tmp 37, .lit (.fn (.func 212) [] [])],none⟩])
 (.seq (.ops [⟨some 39, .mov (.tmp 9),none⟩,⟨some 4, .mov (.tmp 39),none⟩]) .ret)
theorem af_class:af147 = ⟨40, [.tmp 4], .seq cl0 (.seq cl1 (.seq cl2 (.seq cl3 (.seq (.seq (.ops [clM,⟨some 28, .nilck (.lit .nilp),none⟩]) (.block 2 (.loop (.seq (.ops [⟨some 29, .nilck (.lit .nilp),none⟩,clX]) (.seq (.cond (.tmp 30) .skip (.exit 2)) (.block 3 (.seq (.ops (⟨some 31, .nilck (.lit .nilp),none⟩ :: clA)) clB))))))) cl4))))⟩:=rfl
def mapOps (P:Program) (f:Nat):Bool:=match (P.funcs[f]?).bind (·.body) with
 | some (.seq _ (.seq _ (.seq _ (.seq _ (.seq (.seq (.region _ o1 _) (.block _ (.loop (.seq (.region _ o2 _) (.seq _ (.block _ (.seq (.region _ o3 _) _))))))) _))))) =>
  (match o1.toList with | [_,o] => (match o.op with | .range t (.tmp 27) => (match P.underlying t with | some (.map _ _) => true | _ => false) | _ => false) | _ => false) &&
  ((match o2.toList with | o :: _ => (match o.op with | .next (.tmp 28) false => true | _ => false) | _ => false) &&
  (match o3.toList with | o :: _ => (match o.op with | .entry (.tmp 28) => true | _ => false) | _ => false))
 | _ => false
theorem map_ops:mapOps Go.Proofs.Tryz.prog 147 = true:=by kernel_rfl
noncomputable def clH (sB:St) (m:Nat):AHeap:=((sB.h.push (.cells [] false)).del sB.h.next).del m
noncomputable def clN (sB:St) (m:Nat) (d:Nat):Nat:=(clH sB m).next + 2 * d - 1
structure CRun (call:CallT) (args:List AV) (h:AHeap) (r:AV × AHeap):Prop where
 ex:∃ k sA sB m es c,exec (.seq cl0 (.seq cl1 (.seq cl2 cl3))) call k ⟨args ++ List.replicate (40 - args.length) aundef,h⟩ = some (.normal,sA) /\ step1 clM call sA = some sB /\ nth sB.tm 27 = .map m /\ sB.h.get m = some (.map es) /\ 28 < sB.tm.length /\
  r = (.slice (clN sB m es.length) 0 es.length (.opn 1),⟨(clH sB m).next + 2 * es.length,((clH sB m).set (clN sB m es.length) (.cells c true)).t⟩) /\
  ∀ idx:List Nat,idx.Perm (List.range es.length) -> ∃ sE s9 kC h2,mgo (mround call 0 28 sB.h.next 29 [clX] (.tmp 30) 31 clA clB) (inOrd es idx) ⟨put sB.tm 28 (.ptr sB.h.next 0),clH sB m⟩ = some sE /\ runOps [clX] call ⟨put sE.tm 29 (.tup [.bool false]),sE.h⟩ = some s9 /\ ev s9.tm (.tmp 30) = .bool false /\
   finish [.tmp 4] (exec cl4 call kC s9) = some (.slice (clN sB m es.length) 0 es.length (.opn 1),h2) /\ h2.next = (clH sB m).next + 2 * es.length /\ h2.get (clN sB m es.length) = some (.cells c true) /\ ∀ i o,(clH sB m).get i = some o -> i < (clH sB m).next -> i ≠ clN sB m es.length -> h2.get i = some o
theorem exec_det {call:CallT} {c:ACode} {s:St} {k k':Nat} {p p':AX × St} (h:exec c call k s = some p) (h':exec c call k' s = some p'):p = p':=by
 have h1:=exec_le Le.rfl (Nat.le_max_left k k') c h
 have h2:=exec_le Le.rfl (Nat.le_max_right k k') c h'
 rw [h1] at h2; cases h2; rfl
theorem finish_det {call:CallT} {rs:List ARes} {c:ACode} {s:St} {k k':Nat} {r r':AV × AHeap} (h:finish rs (exec c call k s) = some r) (h':finish rs (exec c call k' s) = some r'):r = r':=by
 cases e:exec c call k s with
 | none => rw [e] at h; cases h
 | some p =>
  cases e':exec c call k' s with
  | none => rw [e'] at h'; cases h'
  | some p' =>
   obtain rfl:=exec_det e e'
   rw [e] at h; rw [e'] at h'
   rw [h] at h'; cases h'; rfl
theorem CRun.unique {call:CallT} {args:List AV} {h:AHeap} {r r':AV × AHeap} (H:CRun call args h r) (H':CRun call args h r'):r = r':=by
 obtain ⟨k,sA,sB,m,es,c,a1,a2,a3,a4,_,rfl,a6⟩:=H.ex
 obtain ⟨k',sA',sB',m',es',c',b1,b2,b3,b4,_,rfl,b6⟩:=H'.ex
 have e1:=exec_det a1 b1
 cases e1
 rw [a2] at b2; cases b2
 rw [a3] at b3; cases b3
 rw [a4] at b4; cases b4
 obtain ⟨sE,s9,kC,h2,c1,c2,_,c4,_,c6,_⟩:=a6 _ (List.Perm.refl _)
 obtain ⟨sE',s9',kC',h2',d1,d2,_,d4,_,d6,_⟩:=b6 _ (List.Perm.refl _)
 rw [c1] at d1; cases d1
 rw [c2] at d2; cases d2
 have e2:=finish_det c4 d4
 cases e2
 rw [c6] at d6; cases d6
 rfl
noncomputable def classJ:List AV -> AHeap -> Option (AV × AHeap):=fun a h => open Classical in if hx:(∀ l,AV.fn (.yield l) [] [] ∉ a) /\ ∃ r,CRun (lim otab.get srt) a h r then some (Classical.choose hx.2) else none
theorem classJ_eq {a:List AV} {h:AHeap} {r:AV × AHeap} (hy:∀ l,AV.fn (.yield l) [] [] ∉ a) (H:CRun (lim otab.get srt) a h r):classJ a h = some r:=by
 have hx:(∀ l,AV.fn (.yield l) [] [] ∉ a) /\ ∃ r,CRun (lim otab.get srt) a h r:=⟨hy,r,H⟩
 unfold classJ
 rw [dif_pos hx,(Classical.choose_spec hx.2).unique H]
theorem lim_callOK {P:Program} (hm:P.follows .mixedOrders = true) {T0 T:FnTab} (hT:TabOK P T0) (hO:TOpt T0 T) {I:Oracle} (hI:IOK P I):CallOK P (lim T I):=by
 have key:∀ c args r h,lim T I c args h = some r -> ∃ n,callF T0 I n c args h = some r:=fun c args r h e => by
  obtain ⟨n,e⟩:=lim_iff.1 e
  exact ⟨n,callF_opt hO n _ _ _ _ e⟩
 refine ⟨fun g args av h h' he hy args' w => ?_,fun g args av h h' he ρ B w args' hs ha => ?_,fun l args av h h' he ρ B w args' p hs hp ha => ?_⟩
 ·obtain ⟨n,e⟩:=key _ _ _ _ he
  exact (callF_sound hm hT hI n).enter g args av h h' e hy args' w
 ·obtain ⟨n,e⟩:=key _ _ _ _ he
  exact (callF_sound hm hT hI n).fn g args av h h' e ρ B w args' hs ha
 ·obtain ⟨n,e⟩:=key _ _ _ _ he
  exact (callF_sound hm hT hI n).yield l args av h h' e ρ B w args' p hs hp ha
theorem classJ_sound:∀ args av h h',classJ args h = some (av,h') -> ∀ ρ B w (args':Array Value),Sim Go.Proofs.Tryz.prog ρ h B w -> VRs ρ args args'.toList -> Upon Go.Proofs.Tryz.prog ((callFunc 147 args').run Go.Proofs.Tryz.prog w) (Ans Go.Proofs.Tryz.prog B ρ h w av h'):=by
 intro args av h h' he ρ B w args' hs ha
 unfold classJ at he
 split at he <;> first | (cases he; done) | skip
 rename_i hx
 have H:=Classical.choose_spec hx.2
 generalize Classical.choose hx.2 = r at he H
 cases he
 obtain ⟨k,sA,sB,m,es,cc0,a1,a2,a3,a4,a5,hr,a6⟩:=H.ex
 obtain ⟨F,f1,f2,f3⟩:=tabOK 147 af147 rfl
 rw [af_class] at f2
 unfold trFn at f2
 split at f2 <;> first | (cases f2; done) | skip
 rename_i c hb
 split at f2 <;> first | (cases f2; done) | skip
 rename_i ab rs hab hrs
 have hnt:F.ntmps = 40:=congrArg AFn.nt (Option.some.inj f2)
 have hrs':rs = [.tmp 4]:=congrArg AFn.res (Option.some.inj f2)
 have hbd:=congrArg AFn.body (Option.some.inj f2)
 simp only at hbd
 subst hrs'
 rw [hbd] at hab
 clear f2 hbd
 obtain ⟨c0,cr,rfl,t0,hab⟩:=tr_seq_inv hab
 obtain ⟨c1,cr,rfl,t1,hab⟩:=tr_seq_inv hab
 obtain ⟨c2,cr,rfl,t2,hab⟩:=tr_seq_inv hab
 obtain ⟨c3,cr,rfl,t3,hab⟩:=tr_seq_inv hab
 obtain ⟨cm,c4,rfl,hb1,t4⟩:=tr_seq_inv hab
 obtain ⟨cm1,cm2,rfl,hm1,hb2⟩:=tr_seq_inv hb1
 obtain ⟨iM,rmOps,rfl,hm2⟩:=tr_ops_inv hm1
 obtain ⟨cb3,rfl,hb3⟩:=tr_block_inv hb2
 obtain ⟨cb4,rfl,hb4⟩:=tr_loop_inv hb3
 obtain ⟨cs,cb5,rfl,hst,hb5⟩:=tr_seq_inv hb4
 obtain ⟨i1,stepOps,rfl,hst2⟩:=tr_ops_inv hst
 obtain ⟨cc,cb6,rfl,hcc,hb6⟩:=tr_seq_inv hb5
 obtain ⟨more,cS,cx,rfl,hmo,htS,hcx⟩:=tr_cond_inv hcc
 obtain rfl:=tr_exit_inv hcx
 obtain ⟨cb7,rfl,hb7⟩:=tr_block_inv hb6
 obtain ⟨ca,body,rfl,has,htb⟩:=tr_seq_inv hb7
 obtain ⟨i2,asOps,rfl,has2⟩:=tr_ops_inv has
 obtain ⟨oM,r1,hr1,htM,hr1'⟩:=trOpers_cons_inv hm2
 obtain ⟨oR,r2,rfl,htR,hr2'⟩:=trOpers_cons_inv hr1'
 cases r2 with
 | cons x y => simp only [trOpers] at hr2'; split at hr2' <;> cases hr2'
 | nil =>
  obtain ⟨oN,sRest,hs1,htN,hsT⟩:=trOpers_cons_inv hst2
  obtain ⟨oE,aRest,ha1,htE,haT⟩:=trOpers_cons_inv has2
  obtain ⟨hRd,hRg⟩:=trOper_plain htR
  obtain ⟨hNd,hNg⟩:=trOper_plain htN
  obtain ⟨hEd,hEg⟩:=trOper_plain htE
  have hops:=map_ops
  unfold mapOps at hops
  rw [f1] at hops
  simp only [Option.bind_some,hb,hr1,hs1,ha1,Bool.and_eq_true] at hops
  obtain ⟨k1,k2,k3⟩:=hops
  split at k1 <;> first | (cases k1; done) | skip
  rename_i ty hR
  split at k1 <;> first | (cases k1; done) | skip
  rename_i kt et hty
  split at k2 <;> first | (cases k2; done) | skip
  rename_i hN
  split at k3 <;> first | (cases k3; done) | skip
  rename_i hE
  refine fnMap_sound (fuel:=0) mixed (lim_callOK mixed tabOK otabOK srtOK) f1 f3 hb t0 t1 t2 t3 t4 hrs hr1 htM rfl hR hRd hRg hty hs1 hN hNd hNg hsT ha1 hE hEd hEg haT htS hmo htb (by rw [hnt]; exact a1) a2 a3 a4 (fun idx hidx => ?_) a5 hs ha
  obtain ⟨sE,s9,kC,h2,b1,b2,b3,b4,b5,b6,b7⟩:=a6 idx hidx
  cases hr
  refine ⟨sE,s9,kC,b1,b2,b3,h2,b4,fun ht => ⟨b5.symm,fun i o hi => ?_⟩⟩
  have hget:((clH sB m).set (clN sB m es.length) (.cells cc0 true)).get i = some o:=hi
  rw [AHeap.get_set] at hget
  split at hget
  ·rename_i e; cases hget; rw [e]; exact b6
  ·rename_i e
   refine b7 i o hget ?_ e
   refine Nat.lt_of_not_le fun hle => ?_
   have:(clH sB m).get i = none:=((ht.push _).del _).del _ i hle
   rw [this] at hget; cases hget
noncomputable def cls:Oracle:=fun f a h => if f = 147 then classJ a h else srt f a h
theorem clsOK:IOK Go.Proofs.Tryz.prog cls:=by
 have hs:=srtOK
 refine ⟨fun g args av h h' he ρ B w args' hs' ha => ?_,fun g args r h he l => ?_⟩
 ·unfold cls at he
  split at he
  ·rename_i hg
   subst hg
   exact classJ_sound args av h h' he ρ B w args' hs' ha
  ·exact hs.1 g args av h h' he ρ B w args' hs' ha
 ·unfold cls at he
  split at he
  ·unfold classJ at he
   split at he
   ·rename_i hx; exact hx.1 l
   ·cases he
  ·exact hs.2 g args r h he l
structure Cjc (I:Oracle):Prop where
 srt:Srt I
 cls:∀ a h,I 147 a h = classJ a h
theorem cls_cls:Cjc cls:=⟨⟨fun f a h h1 h2 h3 h4 => (if_neg h4).trans (srt_srt.no f a h h1 h2 h3 h4),fun a h => (if_neg (by decide)).trans (srt_srt.ints a h),fun a h => (if_neg (by decide)).trans (srt_srt.perms a h)⟩,fun _ _ => if_pos rfl⟩
end Go.AM
namespace Go.AM
open Go Go.GT
def sma (E:List (Pm × AV)):List (AV × AV):=E.map fun e => (.str e.1,e.2)
def updE:List (Pm × AV) -> Pm -> AV -> List (Pm × AV)
 | [],p,v => [(p,v)]
 | (q,w) :: E,p,v => if p = q then (p,v) :: E else (q,w) :: updE E p v
theorem updE_keys {p:Pm} {v:AV}:∀ {E:List (Pm × AV)},(updE E p v).map Prod.fst = if p ∈ E.map Prod.fst then E.map Prod.fst else E.map Prod.fst ++ [p]
 | [] => by simp [updE]
 | (q,w) :: E => by
  have ih:=updE_keys (p:=p) (v:=v) (E:=E)
  unfold updE
  by_cases e:p = q
  ·subst e; simp
  ·rw [if_neg e,List.map_cons,ih,List.map_cons]
   by_cases h:p ∈ E.map Prod.fst
   ·rw [if_pos h,if_pos (.tail _ h)]
   ·rw [if_neg h,if_neg (fun hh => by rcases List.mem_cons.1 hh with hh | hh; exact e hh; exact h hh)]; rfl
theorem updE_mem {p:Pm} {v:AV} {x:Pm × AV}:∀ {E:List (Pm × AV)},x ∈ updE E p v -> x = (p,v) \/ x ∈ E
 | [],h => by simp [updE] at h; exact .inl h
 | (q,w) :: E,h => by
  unfold updE at h
  split at h
  ·rcases List.mem_cons.1 h with h | h
   ·exact .inl h
   ·exact .inr (.tail _ h)
  ·rcases List.mem_cons.1 h with h | h
   ·exact .inr (by rw [h]; exact .head _)
   ·rcases updE_mem h with h | h
    ·exact .inl h
    ·exact .inr (.tail _ h)
theorem sk_str (p q:Pm):keyEq (.one 2) (.str p) (.str q) = some (decide (p = q)):=rfl
theorem find_sma (p:Pm) (v:AV):∀ (E:List (Pm × AV)) (i:Nat),(p ∈ E.map Prod.fst /\ ∃ j w,findKey (.one 2) (.str p) (sma E) i = some (some (i + j,w)) /\ (p,w) ∈ E /\ setAt (sma E) j (.str p) v = sma (updE E p v)) \/ (p ∉ E.map Prod.fst /\ findKey (.one 2) (.str p) (sma E) i = some none /\ sma E ++ [(.str p,v)] = sma (updE E p v))
 | [],i => .inr ⟨by simp,rfl,rfl⟩
 | (b,x) :: E,i => by
  have e0:findKey (.one 2) (.str p) (sma ((b,x) :: E)) i = (match keyEq (.one 2) (.str p) (.str b) with | some true => some (some (i,x)) | some false => findKey (.one 2) (.str p) (sma E) (i + 1) | none => none):=rfl
  rw [e0,sk_str]
  by_cases e:p = b
  ·subst e
   rw [decide_eq_true rfl]
   refine .inl ⟨by simp,0,x,rfl, .head _,?_⟩
   unfold updE
   rw [if_pos rfl]; rfl
  ·rw [decide_eq_false e]
   rcases find_sma p v E (i + 1) with ⟨h0,j,w,h1,h2,h3⟩ | ⟨h0,h1,h2⟩
   ·refine .inl ⟨.tail _ h0,j + 1,w,?_, .tail _ h2,?_⟩
    ·rw [show i + (j + 1) = i + 1 + j by omega]; exact h1
    ·unfold updE
     rw [if_neg e]
     show (AV.str b,x) :: setAt (sma E) j (.str p) v = (AV.str b,x) :: sma (updE E p v)
     rw [h3]
   ·refine .inr ⟨fun hh => by rcases List.mem_cons.1 hh with hh | hh; exact e hh; exact h0 hh,h1,?_⟩
    unfold updE
    rw [if_neg e]
    show (AV.str b,x) :: (sma E ++ [(AV.str p,v)]) = (AV.str b,x) :: sma (updE E p v)
    rw [h2]
theorem mupd_sma {tm : List AV} {h : AHeap} {im : Nat} {E : List (Pm × AV)} (hg : h.get im = some (.map (sma E))) {x k y : AOpd} {p : Pm} {v : AV} (hx : ev tm x = .map im) (hk : ev tm k = .str p) (hy : ev tm y = v) {C : CallT} :
  evalE (.mupd (.one 2) x k y) C tm h = some (aundef,h.set im (.map (sma (updE E p v)))):=by
 have hl:lookK (.one 2) (.str p) (sma E) = findKey (.one 2) (.str p) (sma E) 0:=rfl
 rcases find_sma p v E 0 with ⟨_,j,w,h1,_,h3⟩ | ⟨_,h1,h2⟩
 ·rw [Nat.zero_add] at h1
  simp only [evalE,hx,hk,hg,hl,h1,hy,h3]
 ·simp only [evalE,hx,hk,hg,hl,h1,hy,h2]
def kset (K:List Pm):List (AV × AV):=sma (K.map fun p => (p, .bool true))
theorem kset_upd {K:List Pm} {p:Pm}:updE (K.map fun p => (p,AV.bool true)) p (.bool true) = (if p ∈ K then K else K ++ [p]).map fun p => (p,AV.bool true):=by
 induction K with
 | nil => rfl
 | cons q K ih =>
  rw [List.map_cons]
  unfold updE
  by_cases e:p = q
  ·subst e
   rw [if_pos rfl,if_pos (.head _)]; rfl
  ·rw [if_neg e,ih]
   by_cases h:p ∈ K
   ·rw [if_pos h,if_pos (.tail _ h)]; rfl
   ·rw [if_neg h,if_neg (fun hh => by rcases List.mem_cons.1 hh with hh | hh; exact e hh; exact h hh)]; rfl
theorem mupd_kset {tm : List AV} {h : AHeap} {im : Nat} {K : List Pm} (hg : h.get im = some (.map (kset K))) {x k : AOpd} {p : Pm} (hx : ev tm x = .map im) (hk : ev tm k = .str p) {C : CallT} :
  evalE (.mupd (.one 2) x k (.lit (.bool true))) C tm h = some (aundef,h.set im (.map (kset (if p ∈ K then K else K ++ [p])))):=by
 have:=mupd_sma (v := .bool true) hg hx hk (y := .lit (.bool true)) rfl (C:=C)
 rw [kset_upd] at this; exact this
theorem lookup_kset {tm : List AV} {h : AHeap} {im : Nat} {K : List Pm} (hg : h.get im = some (.map (kset K))) {x k : AOpd} {p : Pm} (hx : ev tm x = .map im) (hk : ev tm k = .str p) :
  evalQ (.lookup (.one 2) (.bool false) false x k) tm h = some (.bool (decide (p ∈ K))):=by
 have hl:lookK (.one 2) (.str p) (kset K) = findKey (.one 2) (.str p) (kset K) 0:=rfl
 have hm:(K.map fun p => (p,AV.bool true)).map Prod.fst = K:=by
  rw [List.map_map]
  conv => rhs; rw [<- List.map_id K]
  exact List.map_congr_left fun _ _ => rfl
 rcases find_sma p (.bool true) (K.map fun p => (p,AV.bool true)) 0 with ⟨h0,j,w,h1,h2,_⟩ | ⟨h0,h1,_⟩
 ·rw [hm] at h0
  obtain ⟨q,_,e⟩:=List.mem_map.1 h2
  cases e
  have h1':findKey (.one 2) (.str p) (kset K) 0 = some (some (0 + j, .bool true)):=h1
  simp only [evalQ,hx,hk,hg,hl,h1',decide_eq_true h0]; rfl
 ·rw [hm] at h0
  have h1':findKey (.one 2) (.str p) (kset K) 0 = some none:=h1
  simp only [evalQ,hx,hk,hg,hl,h1',decide_eq_false h0]; rfl
theorem pmAt_inj {h:AHeap} {v:AV} {p q:Pm} (s:PmAt h v p) (t:PmAt h v q):p = q:=by
 refine pc_inj ?_
 rcases s with ⟨rfl,e1⟩ | ⟨i,o,cap,full,rfl,h2,h3,_⟩
 ·rcases t with ⟨_,e2⟩ | ⟨_,_,_,_,e,_⟩
  ·rw [e1,e2]
  ·cases e
 ·rcases t with ⟨e,_⟩ | ⟨i',o',cap',full',e,k2,k3,_⟩
  ·cases e
  ·injection e with e1 e2 e3 e4
   subst e1; subst e2
   by_cases hp:pc p = []
   ·have:(pc q).length = 0:=by rw [<- e3,hp]; rfl
    rw [hp,List.eq_nil_of_length_eq_zero this]
   ·have hq:pc q ≠ []:=fun hh => hp (List.eq_nil_of_length_eq_zero (by rw [e3,hh]; rfl))
    obtain ⟨a1,a2⟩:=h3 hp
    obtain ⟨b1,b2⟩:=k3 hq
    rw [a1] at b1; cases b1
    rw [<- e3,a2] at b2; exact Option.some.inj b2
theorem PmAt.roS {h:AHeap} {v:AV} {p:Pm} (s:PmAt h v p) {i:Nat} {L:List AV} {r:Bool} (hg:h.get i = some (.cells L r)) (hL:Sls L):PmAt (roH h i) v p:=by
 rcases s with s | ⟨j,o,cap,full,h1,h2,h3,h5⟩
 ·exact .inl s
 ·refine .inr ⟨j,o,cap,full,h1,by rw [roH_next]; exact h2,fun hp => ?_,h5⟩
  obtain ⟨e1,e2⟩:=h3 hp
  have hn:j ≠ i:=fun hf => by
   subst hf
   rw [cellsOf_get hg] at e1
   cases e1
   have hpos:0 < p.length:=List.length_pos_iff.2 fun e => hp (by rw [e]; rfl)
   obtain ⟨k1,k2,k3⟩:=cut_spec e2
   have h4:=k3 0 (by rw [pc_len]; exact hpos)
   rw [pc_get hpos] at h4
   exact hL _ (List.mem_of_getElem? h4.symm) _ _ rfl
  rw [roH_cells h2 hn]; exact ⟨e1,e2⟩
noncomputable def pmOf (h:AHeap) (a:AV):Pm:=open Classical in if e:∃ p,PmAt h a p then Classical.choose e else []
theorem pmOf_eq {h:AHeap} {a:AV} {p:Pm} (s:PmAt h a p):pmOf h a = p:=by
 have e:∃ p,PmAt h a p:=⟨p,s⟩
 unfold pmOf
 rw [dif_pos e]; exact pmAt_inj (Classical.choose_spec e) s
theorem PL.map_pm {h:AHeap} {v:AV} {c:List AV} {ps:List Pm} (s:PL h v c ps):c.map (pmOf h) = ps:=by
 refine List.ext_getElem? fun k => ?_
 rw [List.getElem?_map]
 by_cases hk:k < ps.length
 ·obtain ⟨a,ha⟩:=get_some (show k < c.length by rw [s.len]; exact hk)
  obtain ⟨p,hp⟩:=get_some hk
  rw [ha,hp]
  show some (pmOf h a) = some p
  rw [pmOf_eq (s.el k a p ha hp)]
 ·rw [List.getElem?_eq_none (by rw [s.len]; omega),List.getElem?_eq_none (by omega)]; rfl
theorem lex_tot {a b:Pm}:(!lex b a || !lex a b) = true:=by
 cases h1:lex a b with
 | false => simp
 | true => rw [lex_asymm h1]; rfl
section
variable {I:Oracle} (hS:Srt I) {h:AHeap}
include hS
theorem sort_PL {v : AV} {c : List AV} {ps : List Pm} (s : PL h v c ps) (hne : ps ≠ []) (nd : ps.Nodup) (hl : ps.length <= 1000000) (hpl : ∀ p ∈ ps, p.length <= 1000000) {cf : Nat} (hfn : ∃ fn, tab.get cf = some fn)
  (hcf:∀ (hr:AHeap) (a b:AV) (p q:Pm),PmAt hr a p -> PmAt hr b q -> p.length <= 1000000 -> lim otab.get I0 (.fn cf) [a,b] hr = some (.int .i64 (cmpL p q),hr)) :
  ∃ c' L h',lim otab.get I (.fn 159) [v, .fn (.func cf) [] []] h = some (.tup [],h') /\ PL h' v c' L /\ Asc L /\ L.Perm ps /\ c'.Perm c /\ (∀ i,oid v = some i -> h' = h.set i (.cells c' true)) /\ Chg (fun j => oid v = some j) h h':=by
 obtain ⟨i,cap,rfl,hcap,hcl,hi,hg⟩:∃ i cap,v = .slice i 0 ps.length cap /\ (cap = .opn 1 \/ cap = .exact ps.length) /\ c.length = ps.length * 1 /\ i < h.next /\ h.get i = some (.cells c true):=by
  rcases s.own with ⟨_,e,_⟩ | ⟨i,cap,e1,e2,e3,e4,e5⟩
  ·exact absurd (List.eq_nil_of_length_eq_zero e) hne
  ·exact ⟨i,cap,e1,e2,e3,e4,e5⟩
 have hclen:=s.len
 have hsls:=s.sls
 have hmap:=s.map_pm
 have hat:∀ a ∈ c,PmAt h a (pmOf h a) /\ pmOf h a ∈ ps:=fun a ha => by
  obtain ⟨k,hk⟩:=List.mem_iff_getElem?.1 ha
  obtain ⟨p,hp⟩:=get_some (show k < ps.length by rw [<- hclen]; exact (List.getElem?_eq_some_iff.1 hk).1)
  have:=s.el k a p hk hp
  rw [pmOf_eq this]; exact ⟨this,List.mem_of_getElem? hp⟩
 have hinj:∀ a ∈ c, ∀ b ∈ c,pmOf h a = pmOf h b -> a = b:=fun a ha b hb e => by
  obtain ⟨k,hk⟩:=List.mem_iff_getElem?.1 ha
  obtain ⟨j,hj⟩:=List.mem_iff_getElem?.1 hb
  have h1:ps[k]? = some (pmOf h a):=by rw [<- hmap,List.getElem?_map,hk]; rfl
  have h2:ps[j]? = some (pmOf h b):=by rw [<- hmap,List.getElem?_map,hj]; rfl
  have hkj:k = j:=(List.getElem?_inj (List.getElem?_eq_some_iff.1 h1).1 nd).1 (by rw [h1,h2,e])
  rw [hkj,hj] at hk; exact (Option.some.inj hk).symm
 have hrun:∀ a ∈ c, ∀ b ∈ c,lim otab.get I0 (.fn cf) (a :: b :: []) (roH h i) = some (.int .i64 (cmpL (pmOf h a) (pmOf h b)),roH h i):=fun a ha b hb =>
  hcf _ _ _ _ _ ((hat a ha).1.roS hg hsls) ((hat b hb).1.roS hg hsls) (hpl _ (hat a ha).2)
 have hz:∀ a ∈ c, ∀ b ∈ c,cmpZ otab.get I0 cf [] (roH h i) a b = cmpL (pmOf h a) (pmOf h b):=fun a ha b hb => by unfold cmpZ; rw [hrun a ha b hb]
 have hrow:(c.drop 0).take ps.length = c:=by rw [List.drop_zero, <- hclen,List.take_length]
 let c':=c.mergeSort fun a b => !lex (pmOf h b) (pmOf h a)
 have hperm:c'.Perm c:=List.mergeSort_perm _ _
 have hpw:c'.Pairwise fun a b => (!lex (pmOf h b) (pmOf h a)) = true:=List.pairwise_mergeSort (le:=fun a b => !lex (pmOf h b) (pmOf h a)) (fun a b d h1 h2 => by
  simp only [Bool.not_eq_true'] at h1 h2 ⊢
  refine Bool.eq_false_iff.2 fun h3 => ?_
  by_cases e:lex (pmOf h a) (pmOf h b) = true
  ·have:=lex_trans h3 e
   rw [this] at h2; cases h2
  ·have:=lex_total (by simpa using e) h1
   rw [this,h2] at h3; cases h3) (fun a b => lex_tot) c
 have hL:SortedAs otab.get I0 cf [] (roH h i) c c':=by
  refine ⟨hperm,(List.Pairwise.and_mem.1 hpw).imp ?_⟩
  rintro a b ⟨ha,hb,e⟩
  rw [hz b (hperm.mem_iff.1 hb) a (hperm.mem_iff.1 ha),cmpL_neg]
  intro hh
  rw [hh] at e; cases e
 have hx:SortAt tab.get otab.get I0 h i 0 ps.length cf [] c:=by
  refine ⟨List.length_pos_iff.2 hne,by omega,by omega,hfn,?_,?_⟩
  ·rw [hrow]
   refine ⟨fun a ha => (hat a ha).1.scalar,fun a ha b hb => ?_,fun a ha => ?_,fun a ha b hb d hd h1 h2 => ?_,fun a ha b hb h1 h2 => ?_⟩
   ·rw [hz a ha b hb]; exact ⟨_,hrun a ha b hb⟩
   ·rw [hz a ha a ha,cmpL_neg,lex_irr]; decide
   ·rw [hz a ha b hb,cmpL_neg] at h1
    rw [hz b hb d hd,cmpL_neg] at h2
    rw [hz a ha d hd,cmpL_neg]; exact lex_trans h1 h2
   ·rw [hz a ha b hb,cmpL_neg] at h1
    rw [hz b hb a ha,cmpL_neg] at h2
    exact hinj a ha b hb (lex_total (by simpa using h1) (by simpa using h2))
  ·rw [hrow]; exact ⟨_,hL⟩
 have key:=sortJ_eq (cap:=cap) hg hx (by rw [hrow]; exact hL)
 have e1:c.take 0 ++ (c' ++ c.drop (0 + ps.length)) = c':=by
  rw [Nat.zero_add,List.drop_eq_nil_of_le (by rw [hclen]; exact Nat.le_refl _),List.append_nil]; rfl
 rw [e1] at key
 have hc'len:c'.length = ps.length:=by rw [hperm.length_eq,hclen]
 have hLp:(c'.map (pmOf h)).Perm ps:=by rw [<- hmap]; exact hperm.map _
 have hch:Chg (fun j => oid (.slice i 0 ps.length cap) = some j) h (h.set i (.cells c' true)):=Chg.set h (show oid (.slice i 0 ps.length cap) = some i from rfl) _
 have hLl:(c'.map (pmOf h)).length = ps.length:=by rw [List.length_map]; exact hc'len
 refine ⟨c',c'.map (pmOf h),h.set i (.cells c' true),lim_oracle (by rw [hS.perms]; exact key),⟨?_,by rw [List.length_map],fun k a p ha hp => ?_⟩,?_,hLp,hperm,(fun j hj => by cases hj; rfl),hch⟩
 ·refine .inr ⟨i,cap,by rw [hLl],by rw [hLl]; exact hcap,by rw [hLl,Nat.mul_one]; exact hc'len,hi,AHeap.get_set_same _ _ _⟩
 ·rw [List.getElem?_map,ha] at hp
  cases hp
  exact (hat a (hperm.mem_iff.1 (List.mem_of_getElem? ha))).1.stay hch fun j _ hj => by cases hj; exact ⟨c,true,hg,hsls⟩
 ·unfold Asc
  rw [List.pairwise_map]
  have hnd:(c'.map (pmOf h)).Nodup:=hLp.nodup_iff.2 nd
  have hnd2:c'.Pairwise fun a b => pmOf h a ≠ pmOf h b:=List.pairwise_map.1 hnd
  refine (hpw.and hnd2).imp ?_
  rintro a b ⟨e,ne⟩
  by_cases e2:lex (pmOf h a) (pmOf h b) = true
  ·exact e2
  ·exact absurd (lex_total (by simpa using e2) (by simpa using e)) ne
omit hS in
theorem cmp_fn {hr:AHeap} {f:Nat} (hf:otab.get f = some of212) {a b:AV} {p q:Pm} (ha:PmAt hr a p) (hb:PmAt hr b q) (hl:p.length <= 1000000):lim otab.get I0 (.fn f) [a,b] hr = some (.int .i64 (cmpL p q),hr):=by
 refine lim_walk (T:=otab.get) (I:=I0) (f:=f) (fn:=of212) hf rfl ?_
 show WK _ _ [] ⟨[a,b,aundef],hr⟩ _
 dsimp only [of212,Z.t,Z.f,Z.i,Z.q,Z.m,Z.l,Z.b,Z.c,Z.w]
 have hc:=cmp_perm noI0 ha hb hl
 simp (disch:=omega) only [RSe.down,hc]
 exact ⟨(fun i hi => by cases hi),rfl,trivial⟩
end
end Go.AM
namespace Go.AM
open Go Go.GT
theorem lim_call2 {I:Oracle} {hh:AHeap} {a b g:Nat} {tm cs:List AV} {x:AV} {r:AV × AHeap} (e1:nth tm a = .fn (.func g) [] cs) (e2:nth tm b = x) (f:lim otab.get I (.fn g) (x :: cs) hh = some r):evalE (.call (.tmp a) [.tmp b]) (lim otab.get I) tm hh = some r:=by
 rw [evalE_callV (g:=g) (fs:=[]) (cs:=cs) (show ev tm (.tmp a) = _ by rw [ev_tmp]; exact e1)]
 have:evs tm [.tmp b] = [x]:=by show [ev tm (.tmp b)] = _; rw [ev_tmp,e2]
 rw [this]; exact f
end Go.AM
namespace Go.AM
open Go Go.GT
section
variable {C:CallT} {K:List Fr} {Q:AX -> St -> Prop} {op:AOp} {m:Nat} {d:Option Nat} {r:List (AOper × Nat)} {tm:List AV} {h:AHeap}
def WGD (C:CallT) (v:AV) (b:Bool) (d:Option Nat) (op:AOp) (m:Nat) (r:List (AOper × Nat)) (K:List Fr) (tm:List AV) (h:AHeap) (Q:AX -> St -> Prop):Prop:=match v with
 | .bool c => if (c == b) = true then WDs C ((⟨d,op,none⟩,m) :: r) [] K ⟨tm,h⟩ Q else WDs C r [] K ⟨putD tm d aundef,h⟩ Q
 | _ => WDs C r [] K ⟨putD tm d aundef,h⟩ Q
theorem WGD_tt:WGD C (.bool true) true d op m r K tm h Q ↔ WDs C ((⟨d,op,none⟩,m) :: r) [] K ⟨tm,h⟩ Q:=by simp [WGD]
theorem WGD_ff:WGD C (.bool false) false d op m r K tm h Q ↔ WDs C ((⟨d,op,none⟩,m) :: r) [] K ⟨tm,h⟩ Q:=by simp [WGD]
theorem WGD_tf:WGD C (.bool true) false d op m r K tm h Q ↔ WDs C r [] K ⟨putD tm d aundef,h⟩ Q:=by simp [WGD]
theorem WGD_ft:WGD C (.bool false) true d op m r K tm h Q ↔ WDs C r [] K ⟨putD tm d aundef,h⟩ Q:=by simp [WGD]
theorem WDs_g {t:Nat} {b:Bool}:WDs C ((⟨d,op,some (t,b)⟩,m) :: r) [] K ⟨tm,h⟩ Q ↔ WGD C (nth tm t) b d op m r K tm h Q:=by
 have e:runDraw ((⟨d,op,some (t,b)⟩,m) :: r) C ⟨tm,h⟩ [] = if wanted tm (some (t,b)) = true then runDraw ((⟨d,op,none⟩,m) :: r) C ⟨tm,h⟩ [] else runDraw r C ⟨putD tm d aundef,h⟩ []:=by
  rw [runDraw_cons,runDraw_cons]
  by_cases hw:wanted tm (some (t,b)) = true
  ·rw [if_pos hw,if_pos hw,if_pos (show wanted tm none = true from rfl)]
   cases hc:op.cls with
   | q => rw [step1_q hc,step1_q hc]; rfl
   | a => rw [step1_a hc,step1_a hc]; rfl
   | e => rw [step1_e hc,step1_e hc]
  ·rw [if_neg hw,if_neg hw]
   dsimp only
   cases op.cls <;> rfl
 have e2:wanted tm (some (t,b)) = (match nth tm t with | .bool c => c == b | _ => false):=rfl
 unfold WDs
 rw [e,e2]
 generalize nth tm t = v
 cases v with
 | bool c =>
  show (∃ s',(if (c == b) = true then _ else _) = some s' /\ _) ↔ (if (c == b) = true then _ else _)
  by_cases hc:(c == b) = true
  ·rw [if_pos hc,if_pos hc]; exact Iff.rfl
  ·rw [if_neg hc,if_neg hc]; exact Iff.rfl
 | _ => exact Iff.rfl
end
def RSf:=PLift.up (And.intro @RSe.down (And.intro @WDs_g (And.intro @WGD_tt (And.intro @WGD_ff (And.intro @WGD_tf (And.intro @WGD_ft (And.intro @WDV_zero (And.intro @WDE_none (And.intro @WDs_build @WDs_append)))))))))
end Go.AM
namespace Go.AM
open Go Go.GT
theorem lim_callY {I:Oracle} {hh:AHeap} {a b l:Nat} {tm:List AV} {x:AV} {r:AV × AHeap} (e1:nth tm a = .fn (.yield l) [] []) (e2:nth tm b = x) (f:lim otab.get I (.yield l) [x] hh = some r):evalE (.call (.tmp a) [.tmp b]) (lim otab.get I) tm hh = some r:=by
 have e3:evs tm [.tmp b] = [x]:=by show [ev tm (.tmp b)] = _; rw [ev_tmp,e2]
 simp only [evalE,ev_tmp,e1,e3,f]
section
variable {I:Oracle} (hNo:NoI I)
include hNo
theorem filter1_spec {h : AHeap} {lp ib1 ib2 g : Nat} {vl : AV} {caps cV : List AV} {J : Nat -> AHeap -> Prop} {D : AHeap -> Prop} (hcl : cV.length <= 100000) (h0 : J 0 h)
  (keep:∀ k h1,J k h1 -> loadV none (.ptr ib1 0) h1 = some vl /\ loadV none (.ptr ib2 0) h1 = some (.fn (.func g) [] caps) /\ SlAt h1 vl cV)
  (step:∀ k h1 a,cV[k]? = some a -> J k h1 -> ∃ b h2,lim otab.get I (.fn g) (a :: caps) h1 = some (.bool b,h2) /\ (b = false -> J (k + 1) h2) /\ (b = true -> ∃ r h3,lim otab.get I (.yield lp) [a] h2 = some (.bool r,h3) /\ (r = true -> J (k + 1) h3) /\ (r = false -> D h3))) :
  ∃ v h',lim otab.get I (.fn 213) [.fn (.yield lp) [] [], .ptr ib1 0, .ptr ib2 0] h = some (v,h') /\ (J cV.length h' \/ D h'):=by
 refine lim_walk_ex (T:=otab.get) (I:=I) (f:=213) (fn:=of213) rfl (a:=[.fn (.yield lp) [] [], .ptr ib1 0, .ptr ib2 0]) (h:=h) (P:=fun _ h' => J cV.length h' \/ D h') (hNo.at _ _ (by decide) (by decide) (by decide)) ?_
 show WK _ _ [] ⟨[.fn (.yield lp) [] [], .ptr ib1 0, .ptr ib2 0,aundef,aundef,aundef,aundef,aundef],h⟩ _
 dsimp only [of213,Z.t,Z.f,Z.i,Z.q,Z.m,Z.l,Z.b,Z.c,Z.w]
 obtain ⟨k1,k2,k3⟩:=keep 0 h h0
 simp (disch:=omega) only [RSf.down,k1,k3.len]
 refine WK_loopJ (fun k s => k <= cV.length /\ ∃ y1 y4 y5 h',s = ⟨[.fn (.yield lp) [] [],y1, .ptr ib2 0, .int .i64 (k:Int),y4,y5,vl, .int .i64 (cV.length:Int)],h'⟩ /\ J k h') cV.length ⟨Nat.zero_le _,_,_,_,h,rfl,h0⟩ ?_
 rintro k hk _ ⟨_,y1,y4,y5,h',rfl,hJ⟩ next
 by_cases hkl:k < cV.length
 ·obtain ⟨a,ha⟩:=get_some hkl
  obtain ⟨_,j2,j3⟩:=keep k h' hJ
  have i1:=j3.iaddr (q := .i64) hkl
  have i2:=j3.load ha
  obtain ⟨b,h2,f2,q1,q2⟩:=step k h' a ha hJ
  simp (disch:=omega) only [RSf.down,lssT,i1,i2,j2]
  rw [lim_call2 (g:=g) (cs:=caps) (x:=a) rfl rfl f2]
  cases b with
  | false =>
   simp (disch:=omega) only [RSf.down,WOs_g,WG_ft,add1N]
   exact next hkl _ ⟨by omega,_,_,_,h2,rfl,q1 rfl⟩
  | true =>
   obtain ⟨r,h3,f3,q3,q4⟩:=q2 rfl
   simp (disch:=omega) only [RSf.down,WOs_g,WG_tt]
   rw [lim_callY (l:=lp) (x:=a) rfl rfl f3]
   cases r with
   | true =>
    simp (disch:=omega) only [RSf.down,WOs_g,WG_tt,not_bool,Bool.not_true,add1N]
    exact next hkl _ ⟨by omega,_,_,_,h3,rfl,q3 rfl⟩
   | false =>
    simp (disch:=omega) only [RSf.down,WOs_g,WG_tt,not_bool,Bool.not_false]
    exact ⟨(fun i hi => by cases hi),_,rfl, .inr (q4 rfl)⟩
 ·obtain rfl:k = cV.length:=by omega
  simp (disch:=omega) only [RSf.down,lssF]
  exact ⟨(fun i hi => by cases hi),_,rfl, .inl hJ⟩
theorem filter_spec {h:AHeap} {va vf:AV} (ha:va.scalar = true) (hf:vf.scalar = true):lim otab.get I (.fn 148) [va,vf] h = some (.fn (.func 213) [] [.ptr h.next 0, .ptr (h.next + 1) 0],(h.push (.cells [va] true)).push (.cells [vf] true)):=by
 refine lim_walk (T:=otab.get) (I:=I) (f:=148) (fn:=of148) rfl (hNo.at _ _ (by decide) (by decide) (by decide)) ?_
 show WK _ _ [] ⟨[va,vf,aundef],h⟩ _
 dsimp only [of148,Z.t,Z.f,Z.i,Z.q,Z.m,Z.l,Z.b,Z.c,Z.w]
 simp (disch:=omega) only [RSf.down,scalar_cells ha,scalar_cells hf]
 exact ⟨(fun i hi => by cases hi),rfl,trivial⟩
end
end Go.AM
namespace Go.AM
open Go Go.GT
theorem filter_succ {l:List Pm} {f:Pm -> Bool} {k:Nat} {p:Pm} (h:l[k]? = some p):(l.take (k + 1)).filter f = (l.take k).filter f ++ if f p = true then [p] else []:=by
 have e:l.take (k + 1) = l.take k ++ [p]:=by rw [List.take_add_one,h]; rfl
 rw [e,List.filter_append,List.filter_cons,List.filter_nil]
theorem collect_round {C : CallT} {h3 : AHeap} {ic lp n : Nat} {TM TM2 : List AV} {A B : ACode} {vk a : AV} {ck : List AV} (hB : (ACode.block 1 (.ops [⟨some 8, .load none (.tmp 2), none⟩, ⟨some 9, .mov (.tmp 5), none⟩, ⟨some 10, .bslice 1 1 [.nils] [(0, .tmp 9)], none⟩, ⟨some 11, .append 1 24 [.nils] (.tmp 8) (.tmp 10), none⟩, ⟨none, .store 1 (.tmp 2) (.tmp 11), none⟩])) = B)
  {f0 f1 f3 f4 f6 f7 f8 f9 f10 f11 f12:AV} (hT:TM2 = [f0,f1, .ptr ic 0,f3,f4,a,f6,f7,f8,f9,f10,f11,f12]) (ow:Own 1 h3 vk n ck) (hn:n <= 1000000) (hic:ic < h3.next) (hc:h3.get ic = some (.cells [vk] true)) (hl:h3.get lp = some (.loop 0 TM [7] A B 1 none)) (hne:ic ≠ lp) (hlt:lp < h3.next) (fr:∀ j,oid vk = some j -> j ≠ ic /\ j ≠ lp) (sa:a.scalar = true) :
  ∃ b' h5,WK C B [] ⟨TM2,h3⟩ (fun y s2 => y = .normal /\ endRound lp (some (y,s2)) = some (.bool true,h5)) /\ Chg (fun j => oid vk = some j \/ j = ic \/ j = lp) h3 h5 /\ h5.get lp = some (.loop 0 TM [7] A B 0 none) /\ h5.get ic = some (.cells [b'] true) /\ Own 1 h5 b' (n + 1) (ck ++ [a]) /\ ∀ j,oid b' = some j -> h3.next <= j:=by
 have ld:loadV none (.ptr ic 0) h3 = some vk:=loadV_get hc rfl
 have hb:=bslV_sc (h:=h3) sa
 obtain ⟨b',h4,k1,k2,k3,k4,k5⟩:=ow.app1 (bytes:=24) (c:=[a]) rfl (by simp [sa]) (by decide) (by omega)
 have rc4:h4.get ic = some (.cells [vk] true):=by rw [k3.same _ hic fun e => (fr _ e).1 rfl]; exact hc
 have rl4:h4.get lp = some (.loop 0 TM [7] A B 1 none):=by rw [k3.same _ hlt fun e => (fr _ e).2 rfl]; exact hl
 have sb:b'.scalar = true:=SlAt.scalar k2.at
 have e5:stV 1 (.ptr ic 0) b' h4 = some (aundef,h4.set ic (.cells [b'] true)):=stV_at (k:=0) rc4 (by simp) sb
 have rl5:(h4.set ic (.cells [b'] true)).get lp = some (.loop 0 TM [7] A B 1 none):=by rw [AHeap.get_set_ne _ _ (Ne.symm hne)]; exact rl4
 have c1:Chg (fun j => oid vk = some j \/ j = ic \/ j = lp) h3 h4:=k3.mono fun j _ hj => .inl hj
 have c2:Chg (fun j => oid vk = some j \/ j = ic \/ j = lp) h4 (h4.set ic (.cells [b'] true)):=Chg.set h4 (.inr (.inl rfl)) _
 have c3:Chg (fun j => oid vk = some j \/ j = ic \/ j = lp) (h4.set ic (.cells [b'] true)) ((h4.set ic (.cells [b'] true)).set lp (.loop 0 TM [7] A B 0 none)):=Chg.set _ (.inr (.inr rfl)) _
 refine ⟨b',(h4.set ic (.cells [b'] true)).set lp (.loop 0 TM [7] A B 0 none),?_,c1.trans (c2.trans c3 fun _ _ hj => hj) (fun _ _ hj => hj),AHeap.get_set_same _ _ _,by rw [AHeap.get_set_ne _ _ hne,AHeap.get_set_same],?_,fun j hj => by rw [k4] at hj; cases hj; omega⟩
 ·rw [<- hB,hT]
  simp (disch:=omega) only [RSf.down,ld,hb,k1,e5]
  rw [hB]
  exact ⟨trivial,endRound_on rl5⟩
 ·have c4:Chg (fun j => j = ic \/ j = lp) h4 ((h4.set ic (.cells [b'] true)).set lp (.loop 0 TM [7] A B 0 none)):=(Chg.set h4 (.inl rfl) _).trans (Chg.set _ (.inr rfl) _) fun _ _ hj => hj
  exact k2.chg c4 fun i hi e => by
   rw [k4] at hi; cases hi
   rcases e with e | e <;> omega
section
variable {I:Oracle} (hNo:NoI I) {h:AHeap}
include hNo
theorem collect_spec {ib1 ib2 g : Nat} {vl : AV} {caps : List AV} {l : List Pm} {f : Pm -> Bool} (h1 : ib1 < h.next) (h2 : ib2 < h.next) (l1 : loadV none (.ptr ib1 0) h = some vl) (l2 : loadV none (.ptr ib2 0) h = some (.fn (.func g) [] caps)) (hl : PmsAt h vl l) (hL : l.length <= 100000)
  (hfit:∀ (hx:AHeap) (a:AV) (p:Pm),Gro h hx -> p ∈ l -> PmAt hx a p -> ∃ hy,lim otab.get I (.fn g) (a :: caps) hx = some (.bool (f p),hy) /\ Gro hx hy) :
  ∃ v c h',lim otab.get I (.fn 208) [.fn (.func 213) [] [.ptr ib1 0, .ptr ib2 0]] h = some (v,h') /\ PL h' v c (l.filter f) /\ Gro h h' /\ ∀ j,oid v = some j -> h.next <= j:=by
 obtain ⟨cV,s1,s2,s3⟩:=hl
 have key:∃ v c h',lim otab.get I (.fn 235) [.nils, .fn (.func 213) [] [.ptr ib1 0, .ptr ib2 0]] h = some (v,h') /\ PL h' v c (l.filter f) /\ Gro h h' /\ ∀ j,oid v = some j -> h.next <= j:=by
  refine (lim_walk_ex (T:=otab.get) (I:=I) (f:=235) (fn:=of235) rfl (a:=[.nils, .fn (.func 213) [] [.ptr ib1 0, .ptr ib2 0]]) (h:=h) (P:=fun v h' => ∃ c,PL h' v c (l.filter f) /\ Gro h h' /\ ∀ j,oid v = some j -> h.next <= j) (hNo.at _ _ (by decide) (by decide) (by decide)) ?_) |> fun ⟨v,h',e,c,q⟩ => ⟨v,c,h',e,q⟩
  show WK _ _ [] ⟨[.nils, .fn (.func 213) [] [.ptr ib1 0, .ptr ib2 0],aundef,aundef,aundef,aundef,aundef,aundef,aundef,aundef,aundef,aundef,aundef],h⟩ _
  dsimp only [of235,af235,Z.t,Z.q,Z.l,Z.m]
  simp (disch:=omega) only [RSf.down,show (AV.nils).cells = [.nils] from rfl]
  generalize hTM:([AV.nils, .fn (.func 213) [] [.ptr ib1 0, .ptr ib2 0], .ptr h.next 0,aundef, .nils,aundef, .fn (.func 213) [] [.ptr ib1 0, .ptr ib2 0],aundef,aundef,aundef,aundef,aundef,aundef]:List AV) = TM
  generalize hA:(ACode.ops [⟨some 5, .mov (.tmp 7),none⟩]) = A
  generalize hB:(ACode.block 1 (.ops [⟨some 8, .load none (.tmp 2),none⟩,⟨some 9, .mov (.tmp 5),none⟩,⟨some 10, .bslice 1 1 [.nils] [(0, .tmp 9)],none⟩,⟨some 11, .append 1 24 [.nils] (.tmp 8) (.tmp 10),none⟩,⟨none, .store 1 (.tmp 2) (.tmp 11),none⟩])) = B
  have hrng:=filter1_spec hNo (h:=(h.push (.cells [.nils] true)).push (.loop 0 TM [7] A B 0 none)) (lp:=h.next + 1) (ib1:=ib1) (ib2:=ib2) (g:=g) (vl:=vl) (caps:=caps) (cV:=cV)
   (J:=fun k hk => Gro h hk /\ h.next + 1 < hk.next /\ hk.get (h.next + 1) = some (.loop 0 TM [7] A B 0 none) /\ ∃ (vk:AV) (ck:List AV),hk.get h.next = some (.cells [vk] true) /\ Own 1 hk vk ((l.take k).filter f).length ck /\ ck.length = ((l.take k).filter f).length /\ (∀ (i:Nat) (a:AV) (p:Pm),ck[i]? = some a -> ((l.take k).filter f)[i]? = some p -> PmAt h a p) /\ ∀ j,oid vk = some j -> h.next + 2 <= j)
   (D:=fun _ => False) (by omega)
   (by
    refine ⟨(Gro.push h _).trans (Gro.push _ _),Nat.lt_succ_self _,AHeap.get_push_same (h.push _) _, .nils, [],?_,Own.nil,rfl,fun i a p hi => ?_,fun j hj => ?_⟩
    ·rw [AHeap.get_push_lt _ _ (show h.next < h.next + 1 by omega),AHeap.get_push_same]
    ·cases hi
    ·cases hj)
   (fun k hk hJ => by
    obtain ⟨g0,_⟩:=hJ
    exact ⟨by rw [loadV_same (F:=fun _ => False) g0.chg h1 (fun hf => hf)]; exact l1,by rw [loadV_same (F:=fun _ => False) g0.chg h2 (fun hf => hf)]; exact l2,s1.gro g0⟩)
   (fun k hk a ha hJ => by
    obtain ⟨g0,x0,r0,vk,ck,c0,ow,cl,el,fr⟩:=hJ
    have hkl:k < l.length:=by rw [<- s2]; exact (List.getElem?_eq_some_iff.1 ha).1
    obtain ⟨p,hp⟩:=get_some hkl
    have pa:=s3 k a p ha hp
    have hpm:=List.mem_of_getElem? hp
    obtain ⟨hy,fy,gy⟩:=hfit hk a p g0 hpm (PmAt.gro pa g0)
    have hst:=filter_succ (f:=f) hp
    have rl:hy.get (h.next + 1) = some (.loop 0 TM [7] A B 0 none):=by rw [gy.same _ x0]; exact r0
    have rc:hy.get h.next = some (.cells [vk] true):=by rw [gy.same _ (by omega)]; exact c0
    refine ⟨f p,hy,fy,fun hf => ?_,fun hf => ?_⟩
    ·rw [hf,if_neg (by decide),List.append_nil] at hst
     rw [hst]
     exact ⟨g0.trans gy,by have:=gy.le; omega,rl,vk,ck,rc,ow.gro gy,cl,el,fr⟩
    ·rw [hf,if_pos rfl] at hst
     have hfl:((l.take k).filter f).length <= 100000:=by
      have a1:=List.length_filter_le f (l.take k)
      have a2:(l.take k).length <= l.length:=by rw [List.length_take]; omega
      omega
     have hcs:Chg (fun j => j = h.next + 1) hy (hy.set (h.next + 1) (.loop 0 TM [7] A B 1 none)):=Chg.set (F:=fun j => j = h.next + 1) hy rfl _
     have ow3:Own 1 (hy.set (h.next + 1) (.loop 0 TM [7] A B 1 none)) vk ((l.take k).filter f).length ck:=(ow.gro gy).chg hcs fun i hi e => by have:=fr i hi; omega
     have xy:h.next + 1 < hy.next:=by have:=gy.le; omega
     have rc3:(hy.set (h.next + 1) (.loop 0 TM [7] A B 1 none)).get h.next = some (.cells [vk] true):=by rw [AHeap.get_set_ne _ _ (by omega)]; exact rc
     have rl3:(hy.set (h.next + 1) (.loop 0 TM [7] A B 1 none)).get (h.next + 1) = some (.loop 0 TM [7] A B 1 none):=AHeap.get_set_same _ _ _
     have x3:h.next + 1 < (hy.set (h.next + 1) (.loop 0 TM [7] A B 1 none)).next:=xy
     have nx3:(hy.set (h.next + 1) (.loop 0 TM [7] A B 1 none)).next = hy.next:=rfl
     have gs3:Gro h (hy.set (h.next + 1) (.loop 0 TM [7] A B 1 none)):=(g0.trans gy).set (by omega) _
     have hw:=lim_yield_walk (T:=otab.get) (I:=I) rl (args:=[a]) rfl (Pst:=fun r h' => ∃ t,r = .bool t /\ (t = true -> (Gro h h' /\ h.next + 1 < h'.next /\ h'.get (h.next + 1) = some (.loop 0 TM [7] A B 0 none) /\ ∃ (vk:AV) (ck:List AV),h'.get h.next = some (.cells [vk] true) /\ Own 1 h' vk ((l.take (k + 1)).filter f).length ck /\ ck.length = ((l.take (k + 1)).filter f).length /\ (∀ (i:Nat) (a:AV) (p:Pm),ck[i]? = some a -> ((l.take (k + 1)).filter f)[i]? = some p -> PmAt h a p) /\ ∀ j,oid vk = some j -> h.next + 2 <= j)) /\ (t = false -> False)) (by
      subst hA
      rw [<- hTM]
      show WK _ _ [] ⟨[AV.nils, .fn (.func 213) [] [.ptr ib1 0, .ptr ib2 0], .ptr h.next 0,aundef, .nils,aundef, .fn (.func 213) [] [.ptr ib1 0, .ptr ib2 0],a,aundef,aundef,aundef,aundef,aundef],hy⟩ _
      simp (disch:=omega) only [RSf.down]
      refine ⟨trivial,0,TM, [7],_,B,none,by rw [<- hTM] at rl ⊢; exact rl,?_⟩
      rw [hTM]
      obtain ⟨b',h5,k1,k2,k4,k5,k6,k7⟩:=collect_round (C:=lim otab.get I) (ic:=h.next) (lp:=h.next + 1) (TM:=TM) (TM2:=[AV.nils, .fn (.func 213) [] [.ptr ib1 0, .ptr ib2 0], .ptr h.next 0,aundef, .nils,a, .fn (.func 213) [] [.ptr ib1 0, .ptr ib2 0],a,aundef,aundef,aundef,aundef,aundef]) (A := .ops [⟨some 5, .mov (.tmp 7),none⟩]) (B:=B) hB rfl ow3 (by omega) (by omega) rc3 rl3 (by omega) x3 (fun j hj => by have:=fr j hj; omega) pa.scalar
      refine k1.mono fun y s2 hq => ?_
      obtain ⟨rfl,e2⟩:=hq
      refine ⟨_,_,e2,true,rfl,fun _ => ?_,fun e => by cases e⟩
      have g4:Gro h h5:=gs3.chg_new k2 fun j hj => by
       rcases hj with hj | hj | hj
       ·have:=fr j hj; omega
       ·omega
       ·omega
      refine ⟨g4,by have:=k2.le; omega,k4,b',ck ++ [a],k5,by rw [hst,List.length_append]; exact k6,by rw [hst,List.length_append,List.length_append,cl]; rfl,fun i x q hx hq => ?_,fun j hj => by have:=k7 j hj; omega⟩
      ·rw [hst] at hq
       by_cases hi:i < ck.length
       ·rw [List.getElem?_append_left hi] at hx
        rw [List.getElem?_append_left (by omega)] at hq
        exact el i x q hx hq
       ·have hi2 : i = ck.length := by
         have:=(List.getElem?_eq_some_iff.1 hx).1
         rw [List.length_append,List.length_singleton] at this; omega
        subst hi2
        rw [List.getElem?_append_right (Nat.le_refl _),Nat.sub_self] at hx
        rw [List.getElem?_append_right (by omega),cl,Nat.sub_self] at hq
        cases hx; cases hq; exact pa)
     obtain ⟨r,h',e,t,rfl,q1,q2⟩:=hw
     exact ⟨t,h',e,q1,q2⟩)
  obtain ⟨v,h',e,hJ⟩:=hrng
  rcases hJ with ⟨g0,x0,r0,vk,ck,c0,ow,cl,el,fr⟩ | hf
  ·refine WK_range (f := .tmp 6) (g:=213) (first:=[]) (cap:=[.ptr ib1 0, .ptr ib2 0]) (by rw [<- hTM]; rfl) e (endRange_all r0) ?_
   have ld:loadV none (.ptr h.next 0) (h'.set (h.next + 1) (.loop 0 TM [7] A B 3 none)) = some vk:=loadV_get (by rw [AHeap.get_set_ne _ _ (by omega)]; exact c0) rfl
   rw [s2,List.take_length] at ow cl el
   have gs:=g0.set (show h.next <= h.next + 1 by omega) (.loop 0 TM [7] A B 3 none)
   have ow':=ow.chg (Chg.set (F:=fun j => j = h.next + 1) h' rfl (.loop 0 TM [7] A B 3 none)) fun i hi e => by have:=fr i hi; omega
   show WX _ _ _ ⟨TM,h'.set (h.next + 1) (.loop 0 TM [7] A B 3 none)⟩ _
   generalize h'.set (h.next + 1) (.loop 0 TM [7] A B 3 none) = hE at ld gs ow' ⊢
   rw [<- hTM]
   simp (disch:=omega) only [RSf.down,ld]
   exact ⟨(fun i hi => by cases hi),vk,rfl,ck,⟨ow',cl,fun i a p ha hp => (el i a p ha hp).gro gs⟩,gs,fun j hj => by have:=fr j hj; omega⟩
  ·exact hf.elim
 obtain ⟨v,c,h3,f3,p3,g3,fr⟩:=key
 refine (lim_walk_ex (T:=otab.get) (I:=I) (f:=208) (fn:=of208) rfl (a:=[.fn (.func 213) [] [.ptr ib1 0, .ptr ib2 0]]) (h:=h) (P:=fun a h' => a = v /\ h' = h3) (hNo.at _ _ (by decide) (by decide) (by decide)) ?_) |> fun ⟨a,h',e,q1,q2⟩ => ⟨v,c,h3,by rw [e,q1,q2],p3,g3,fr⟩
 show WK _ _ [] ⟨[.fn (.func 213) [] [.ptr ib1 0, .ptr ib2 0],aundef],h⟩ _
 dsimp only [of208,Z.t,Z.f,Z.i,Z.q,Z.m,Z.l,Z.b,Z.c,Z.w]
 simp (disch:=omega) only [RSf.down,f3]
 exact ⟨(fun i hi => by cases hi),_,rfl,rfl,trivial⟩
theorem setOf_spec {vl : AV} {l : List Pm} {n : Nat} (hl : PmsAt h vl l) (pv : ∀ x ∈ l, PV n x) (hn : n <= 20) (hL : l.length <= 100000) :
  ∃ K h',lim otab.get I (.fn 162) [vl] h = some (.map h.next,h') /\ h'.get h.next = some (.map (kset K)) /\ h.next < h'.next /\ Gro h h' /\ ∀ q,q ∈ K ↔ q ∈ l:=by
 refine (lim_walk_ex (T:=otab.get) (I:=I) (f:=162) (fn:=of162) rfl (a:=[vl]) (h:=h) (P:=fun a h' => a = .map h.next /\ ∃ K,h'.get h.next = some (.map (kset K)) /\ h.next < h'.next /\ Gro h h' /\ ∀ q,q ∈ K ↔ q ∈ l) (hNo.at _ _ (by decide) (by decide) (by decide)) ?_) |> fun ⟨a,h',e,q1,K,q2⟩ => ⟨K,h',by rw [e,q1],q2⟩
 show WK _ _ [] ⟨[vl,aundef,aundef,aundef,aundef],h⟩ _
 dsimp only [of162,Z.t,Z.f,Z.i,Z.q,Z.m,Z.l,Z.b,Z.c,Z.w]
 simp (disch:=omega) only [RSf.down,hl.len]
 refine WK_loopJ (fun k s => k <= l.length /\ ∃ y2 K h',s = ⟨[vl, .int .i64 (k:Int),y2, .map h.next, .int .i64 (l.length:Int)],h'⟩ /\ h'.get h.next = some (.map (kset K)) /\ h.next < h'.next /\ Gro h h' /\ ∀ q,q ∈ K ↔ q ∈ l.take k) l.length
  ⟨Nat.zero_le _,_, [],_,rfl,AHeap.get_push_same _ _,Nat.lt_succ_self _,Gro.push h _,fun q => by simp⟩ ?_
 rintro k hk _ ⟨_,y2,K,h',rfl,hg,hlt,g,hm⟩ next
 by_cases hkl:k < l.length
 ·obtain ⟨x,hx⟩:=get_some hkl
  obtain ⟨i1,a,i2,i3⟩:=(PmsAt.gro' hl g).get hx
  obtain ⟨h3,f3,g3⟩:=jkey_spec hNo i3 (pv x (List.mem_of_getElem? hx)) hn
  have hg3:h3.get h.next = some (.map (kset K)):=by rw [g3.same _ hlt]; exact hg
  have em:∀ tm:List AV,nth tm 3 = .map h.next -> nth tm 2 = .str x -> evalE (.mupd (.one 2) (.tmp 3) (.tmp 2) (.lit (.bool true))) (lim otab.get I) tm h3 = some (aundef,h3.set h.next (.map (kset (if x ∈ K then K else K ++ [x])))):=fun tm e1 e2 => mupd_kset hg3 (by rw [ev_tmp]; exact e1) (by rw [ev_tmp]; exact e2)
  simp (disch:=omega) only [RSf.down,lssT,i1,i2,f3]
  rw [em _ rfl rfl]
  simp (disch:=omega) only [RSf.down,add1N]
  have e4:l.take (k + 1) = l.take k ++ [x]:=by rw [List.take_add_one,hx]; rfl
  refine next hkl _ ⟨by omega,_,_,_,rfl,AHeap.get_set_same _ _ _,by have:=g3.le; show h.next < h3.next; omega,(g.trans g3).set (Nat.le_refl _) _,fun q => ?_⟩
  rw [e4,List.mem_append,List.mem_singleton, <- hm]
  split
  ·rename_i hin
   exact ⟨.inl,fun hh => hh.elim id fun e => e ▸ hin⟩
  ·rw [List.mem_append,List.mem_singleton]
 ·obtain rfl:k = l.length:=by omega
  simp (disch:=omega) only [RSf.down,lssF]
  rw [List.take_length] at hm
  exact ⟨(fun i hi => by cases hi),_,rfl,rfl,K,hg,hlt,g,hm⟩
theorem shas_spec {im : Nat} {K : List Pm} {va : AV} {p : Pm} {n : Nat} (hg : h.get im = some (.map (kset K))) (him : im < h.next) (ha : PmAt h va p) (pp : PV n p) (hn : n <= 20) :
  ∃ h',lim otab.get I (.fn 157) [.map im,va] h = some (.bool (decide (p ∈ K)),h') /\ Gro h h':=by
 refine (lim_walk_ex (T:=otab.get) (I:=I) (f:=157) (fn:=of157) rfl (a:=[.map im,va]) (h:=h) (P:=fun a h' => a = .bool (decide (p ∈ K)) /\ Gro h h') (hNo.at _ _ (by decide) (by decide) (by decide)) ?_) |> fun ⟨a,h',e,q1,q2⟩ => ⟨h',by rw [e,q1],q2⟩
 show WK _ _ [] ⟨[.map im,va,aundef],h⟩ _
 dsimp only [of157,Z.t,Z.f,Z.i,Z.q,Z.m,Z.l,Z.b,Z.c,Z.w]
 obtain ⟨h2,f2,g2⟩:=jkey_spec hNo ha pp hn
 have hg2:h2.get im = some (.map (kset K)):=by rw [g2.same _ him]; exact hg
 have el:∀ tm:List AV,nth tm 0 = .map im -> nth tm 1 = .str p -> evalQ (.lookup (.one 2) (.bool false) false (.tmp 0) (.tmp 1)) tm h2 = some (.bool (decide (p ∈ K))):=fun tm e1 e2 => lookup_kset hg2 (by rw [ev_tmp]; exact e1) (by rw [ev_tmp]; exact e2)
 simp (disch:=omega) only [RSf.down,f2]
 rw [el _ rfl rfl]
 simp (disch:=omega) only [RSf.down]
 exact ⟨(fun i hi => by cases hi),_,rfl,rfl,g2⟩
end
end Go.AM
namespace Go.AM
open Go Go.GT
noncomputable def redS (n:Nat) (A:List Pm) (p:Pm):List Pm:=open Classical in if Gen n A p then A else A ++ [p]
noncomputable def red (n:Nat) (M:List Pm):List Pm:=M.foldl (redS n) []
theorem redS_in {n:Nat} {A:List Pm} {p:Pm} (h:Gen n A p):redS n A p = A:=by unfold redS; rw [if_pos h]
theorem redS_out {n:Nat} {A:List Pm} {p:Pm} (h:¬ Gen n A p):redS n A p = A ++ [p]:=by unfold redS; rw [if_neg h]
theorem red_succ {n:Nat} {M:List Pm} {k:Nat} {p:Pm} (h:M[k]? = some p):red n (M.take (k + 1)) = redS n (red n (M.take k)) p:=by
 unfold red; rw [take_succ_get h,List.foldl_append]; rfl
theorem red_sub {n:Nat}:∀ {M A:List Pm}, ∀ p ∈ M.foldl (redS n) A,p ∈ A \/ p ∈ M
 | [],_,p,hp => .inl hp
 | q :: M,A,p,hp => by
  rw [List.foldl_cons] at hp
  rcases red_sub p hp with h | h
  ·by_cases e:Gen n A q
   ·rw [redS_in e] at h; exact .inl h
   ·rw [redS_out e] at h
    rcases List.mem_append.1 h with h | h
    ·exact .inl h
    ·rw [List.mem_singleton.1 h]; exact .inr (.head _)
  ·exact .inr (.tail _ h)
theorem red_mem {n:Nat} {M:List Pm} {p:Pm} (h:p ∈ red n M):p ∈ M:=(red_sub p h).resolve_left (by simp)
theorem red_len {n:Nat}:∀ {M A:List Pm},(M.foldl (redS n) A).length <= A.length + M.length
 | [],_ => Nat.le_refl _
 | q :: M,A => by
  rw [List.foldl_cons]
  have h:=red_len (n:=n) (M:=M) (A:=redS n A q)
  have h2:(redS n A q).length <= A.length + 1:=by
   by_cases e:Gen n A q
   ·rw [redS_in e]; omega
   ·rw [redS_out e,List.length_append,List.length_singleton]; omega
  rw [List.length_cons]; omega
section
variable {n:Nat} {G0 A:List Pm} {lab:Nat -> Nat} {h:AHeap} {ic:Nat} {ids:Nat -> Nat} {c:List Lv}
theorem Chain.els (C:Chain n G0 A lab h ic ids c) (hA:∀ s ∈ A,PV n s):(els c 0 (one n)).Nodup /\ (els c 0 (one n)).length = ordC c /\ ∀ q,q ∈ els c 0 (one n) ↔ Gen n A q:=by
 refine ⟨(asc_els C.ok (PV.one n)).nodup,length_els,fun q => ?_⟩
 rw [mem_els C.ok (PV.one n)]
 constructor
 ·rintro ⟨s,s1,s2,s3,rfl⟩
  rw [s1.mul_one]; exact (C.iff s1).1 s3
 ·intro hq
  have hqv:=hq.pv hA
  exact ⟨q,hqv,Fx.zero,(C.iff hqv).2 hq,hqv.mul_one.symm⟩
end
end Go.AM
namespace Go.AM
open Go Go.GT
theorem result_ct {tm:List AV} {h:AHeap} {b k i o:Nat} {n:Option Nat} {v:AV} (e:nth tm k = .ptr i o) (hl:loadV n (.ptr i o) h = some v):result [.cell k n, .tmp b] tm h = some (.tup [v,nth tm b]):=by
 have h1:resOf tm h (.cell k n) = some v:=by
  show (match nth tm k with | .ptr i o => (match cellsOf h i with | some c => fit n o c | none => none) | _ => none) = _
  rw [e]; exact hl
 have h2:resOfs tm h [.cell k n, .tmp b] = some [v,nth tm b]:=by
  show (match resOf tm h (.cell k n),(some [nth tm b]:Option (List AV)) with | some v,some vs => some (v :: vs) | _,_ => none) = _
  rw [h1]
 unfold result
 rw [h2]
end Go.AM
namespace Go.AM
open Go Go.GT
theorem err_zero {n:Nat} (hn:n <= 20) {S:List Pm} (hl:S.length <= 32) (hS:∀ s ∈ S,PV n s):groupErr (n:Int) (S.map zs) = 0:=by
 unfold groupErr
 have h0:degErr (n:Int) = 0:=by unfold degErr; rw [if_neg (by omega),if_neg (by omega)]
 rw [if_neg (fun h => h h0),if_neg (by rw [List.length_map]; omega)]
 refine firstE_zero fun i hi => ?_
 rw [List.length_map] at hi
 obtain ⟨s,hs⟩:=get_some hi
 rw [getD_some (show (S.map zs)[i]? = some (zs s) by rw [List.getElem?_map,hs]; rfl)]
 have hp:=hS s (List.mem_of_getElem? hs)
 unfold genErr
 rw [ok_of_perm hp hn,zs_len,hp.len]
 simp
theorem gS_zs {S:List Pm}:gS (S.map zs) = S:=by
 unfold gS; rw [List.map_map]
 exact List.map_id'' (fun p => zs_ns) S
theorem PL.lsAt {h:AHeap} {v:AV} {c:List AV} {S:List Pm} (p:PL h v c S):LsAt h v (S.map zs) :=
 ⟨c,p.own.at,by rw [List.length_map]; exact p.len,fun i a x hi hx => by
  rw [List.getElem?_map] at hx
  cases e:S[i]? with
  | none => rw [e] at hx; cases hx
  | some s =>
   rw [e] at hx; cases hx
   have:=p.el i a s hi e
   have e2:pc s = ic (zs s):=by unfold pc ic zs; rw [List.map_map]; rfl
   unfold PmAt at this
   rw [e2] at this; exact this⟩
end Go.AM
namespace Go.AM
open Go Go.GT
theorem isel_nil {n:Nat}:IsEl n [] [one n]:=by
 refine ⟨List.pairwise_singleton _ _,fun p => ?_⟩
 rw [List.mem_singleton]
 constructor
 ·intro e; rw [e]; exact .one
 ·intro h
  cases h with
  | one => rfl
  | mul _ hs => cases hs
end Go.AM
namespace Go.AM
open Go Go.GT
section
variable {I:Oracle} (hS:Srt I) {h:AHeap}
include hS
theorem pelements_spec {vg : AV} {ls : List (List Int)} (hg : LsAt h vg ls) {d : Int} (hc : groupErr d ls = 0) {l : List Pm} (hel : IsEl d.toNat (gS ls) l) (hl : l.length <= 5040) :
  ∃ v cb h',lim otab.get I (.fn 200) [.agg [.int .i64 d,vg]] h = some (.tup [v, .int .i64 0],h') /\ PL h' v cb l /\ Gro h h' /\ ∀ j,oid v = some j -> h.next <= j:=by
 have hNo:=hS.no
 obtain ⟨n,rfl,hn,hl32,hls,hSv⟩:=group_of_ok hc
 rw [Int.toNat_natCast] at hel
 have hB:Bnd n (gS ls) 5040:=⟨l,fun p hp => (hel.mem p).2 hp,hl⟩
 have g1:=Gro.push h (.cells [.int .i64 (n:Int),vg] true)
 have ba:=fun {h'} (g:Gro _ h') => box_all (h:=h) (c:=[.int .i64 (n:Int),vg]) (r:=true) (h':=h') g (n:=2) rfl
 obtain ⟨h2,f2,g2⟩:=gcheck hNo (hg.gro g1) (n:Int)
 rw [hc] at f2
 have b1:=ba (Gro.refl _)
 have b20:=box_ld (h:=h) (c:=[.int .i64 (n:Int),vg]) (r:=true) g2 (o:=0) (x := .int .i64 (n:Int)) rfl
 have b21:=box_ld (h:=h) (c:=[.int .i64 (n:Int),vg]) (r:=true) g2 (o:=1) (x:=vg) rfl
 have hp:=((hg.gro g1).gro g2).pms hls
 have key:∃ v cb h',lim otab.get I (.fn 233) [.int .i64 (n:Int),vg] h2 = some (.tup [v, .int .i64 0],h') /\ PL h' v cb l /\ Gro h2 h' /\ ∀ j,oid v = some j -> h2.next <= j:=by
  obtain ⟨ic,h3,lab,ids,c,f3,C,g3,hic⟩:=cnew_spec hNo hn hp hSv (by unfold gS; rw [List.length_map]; omega) hB
  have f4:=corder_spec hNo C hn hSv hB
  obtain ⟨e1,e2,e3⟩:=C.els hSv
  have hE:IsEl n (gS ls) (els c 0 (one n)):=⟨asc_els C.ok (PV.one n),e3⟩
  have hEl:=hE.unique hel
  have ho:ordC c <= 5040:=by rw [<- e2,hEl]; exact hl
  obtain ⟨v,cb,h5,f5,g5,p5,fr,_⟩:=celements_spec hS C.at_ hn C.ok C.cl ho
  rw [hEl] at p5
  refine (lim_walk_ex (T:=otab.get) (I:=I) (f:=233) (fn:=of233) rfl (a:=[.int .i64 (n:Int),vg]) (h:=h2) (P:=fun a h' => ∃ v cb,a = .tup [v, .int .i64 0] /\ PL h' v cb l /\ Gro h2 h' /\ ∀ j,oid v = some j -> h2.next <= j) (hNo.at _ _ (by decide) (by decide) (by decide)) ?_) |> fun ⟨a,h',e,v,cb,q1,q2⟩ => ⟨v,cb,h',by rw [e,q1],q2⟩
  show WK _ _ [] ⟨[.int .i64 (n:Int),vg,aundef,aundef],h2⟩ _
  dsimp only [of233,Z.t,Z.f,Z.i,Z.q,Z.m,Z.l,Z.b,Z.c,Z.w]
  simp (disch:=omega) only [RSf.down,f3,f4,gtrF,f5]
  exact ⟨(fun i hi => by cases hi),_,rfl,v,cb,rfl,p5,g3.trans g5,fun j hj => Nat.le_trans g3.le (fr j hj)⟩
 obtain ⟨v,cb,h3,f3,p3,g3,fr⟩:=key
 refine (lim_walk_ex (T:=otab.get) (I:=I) (f:=200) (fn:=of200) rfl (a:=[.agg [.int .i64 (n:Int),vg]]) (h:=h) (P:=fun a h' => ∃ v cb,a = .tup [v, .int .i64 0] /\ PL h' v cb l /\ Gro h h' /\ ∀ j,oid v = some j -> h.next <= j) (hNo.at _ _ (by decide) (by decide) (by decide)) ?_) |> fun ⟨a,h',e,v,cb,q1,q2⟩ => ⟨v,cb,h',by rw [e,q1],q2⟩
 show WK _ _ [] ⟨[.agg [.int .i64 (n:Int),vg],aundef,aundef],h⟩ _
 dsimp only [of200,Z.t,Z.f,Z.i,Z.q,Z.m,Z.l,Z.b,Z.c,Z.w]
 simp (disch:=omega) only [RSf.down,b1,f2,neqF,b20,b21,f3]
 exact ⟨(fun i hi => by cases hi),_,rfl,v,cb,rfl,p3,g1.trans (g2.trans g3),fun j hj => by have:=fr j hj; have:=(g1.trans g2).le; omega⟩
end
end Go.AM
namespace Go.AM
open Go Go.GT
def Soft (F:Nat -> Prop) (h:AHeap):Prop:=∀ i,i < h.next -> F i -> cellsOf h i = none \/ ∃ L r,h.get i = some (.cells L r) /\ Sls L
theorem PmAt.stayG {F:Nat -> Prop} {h h':AHeap} {v:AV} {p:Pm} (s:PmAt h v p) (c:Chg F h h') (hF:Soft F h):PmAt h' v p:=by
 rcases s with s | ⟨i,o,cap,full,h1,h2,h3,h5⟩
 ·exact .inl s
 ·refine .inr ⟨i,o,cap,full,h1,Nat.lt_of_lt_of_le h2 c.le,fun hp => ?_,h5⟩
  obtain ⟨e1,e2⟩:=h3 hp
  have hn:¬ F i:=fun hf => by
   rcases hF i h2 hf with e0 | ⟨L,r,hg,hL⟩
   ·rw [e0] at e1; cases e1
   ·rw [cellsOf_get hg] at e1
    cases e1
    have hpos:0 < p.length:=List.length_pos_iff.2 fun e => hp (by rw [e]; rfl)
    obtain ⟨k1,k2,k3⟩:=cut_spec e2
    have h4:=k3 0 (by rw [pc_len]; exact hpos)
    rw [pc_get hpos] at h4
    exact hL _ (List.mem_of_getElem? h4.symm) _ _ rfl
  rw [c.cells h2 hn]; exact ⟨e1,e2⟩
theorem PL.stayG {F:Nat -> Prop} {h h':AHeap} {v:AV} {c:List AV} {ps:List Pm} (s:PL h v c ps) (k:Chg F h h') (hF:Soft F h) (ho:∀ i,oid v = some i -> ¬ F i):PL h' v c ps :=
 ⟨s.own.chg k ho,s.len,fun i a p ha hp => (s.el i a p ha hp).stayG k hF⟩
theorem PL.soft {h:AHeap} {v:AV} {c:List AV} {ps:List Pm} (s:PL h v c ps):Soft (fun j => oid v = some j) h:=fun i hi e => .inr (s.own_sls i hi e)
theorem soft_map {h:AHeap} {im:Nat} {es:List (AV × AV)} (hg:h.get im = some (.map es)):Soft (fun j => j = im) h:=fun i _ e => .inl (by rw [e]; unfold cellsOf; rw [hg])
theorem PmsAt.one {h:AHeap} {a:AV} {p:Pm} (ha:PmAt h a p):PmsAt (h.push (.cells [a] true)) (.slice h.next 0 1 (.exact 1)) [p]:=(PL.one ha).pms
section
variable {I:Oracle} (hNo:NoI I) {h:AHeap}
include hNo
theorem pidentity {n:Nat} (hn:n <= 20):∃ v h',lim otab.get I (.fn 209) [.int .i64 (n:Int)] h = some (.tup [v, .int .i64 0],h') /\ NewPm h h' v (one n):=by
 have hd:lim otab.get I (.fn 236) [.int .i64 (n:Int)] h = some (.int .i64 0,h):=by
  refine lim_walk (T:=otab.get) (I:=I) (f:=236) (fn:=of236) rfl (hNo.at _ _ (by decide) (by decide) (by decide)) ?_
  show WK _ _ [] ⟨[.int .i64 (n:Int),aundef],h⟩ _
  dsimp only [of236,Z.t,Z.f,Z.i,Z.q,Z.m,Z.l,Z.b,Z.c,Z.w]
  simp (disch:=omega) only [RSf.down,lssF,gtrF]
  exact ⟨(fun i hi => by cases hi),rfl,trivial⟩
 obtain ⟨v,h2,f2,n2⟩:=id_fn (I:=I) (h:=h) (f:=203) (n:=n) rfl (fun _ _ => hNo.at _ _ (by decide) (by decide) (by decide)) (by omega)
 refine (lim_walk_ex (T:=otab.get) (I:=I) (f:=209) (fn:=of209) rfl (a:=[.int .i64 (n:Int)]) (h:=h) (P:=fun a h' => a = .tup [v, .int .i64 0] /\ h' = h2) (hNo.at _ _ (by decide) (by decide) (by decide)) ?_) |> fun ⟨a,h',e,q1,q2⟩ => ⟨v,h2,by rw [e,q1,q2],n2⟩
 show WK _ _ [] ⟨[.int .i64 (n:Int),aundef,aundef],h⟩ _
 dsimp only [of209,Z.t,Z.f,Z.i,Z.q,Z.m,Z.l,Z.b,Z.c,Z.w]
 simp (disch:=omega) only [RSf.down,hd,neqF,f2]
 exact ⟨(fun i hi => by cases hi),_,rfl,rfl,trivial⟩
end
structure RdS (h h':AHeap) (n im:Nat) (vk vid vg:AV) (A work:List Pm) (K:List Pm):Prop where
 gro:Gro h h'
 lt:h.next + 1 < h'.next
 o13:h'.get h.next = some (.cells [.int .i64 0, .nils] true)
 o9:h'.get (h.next + 1) = some (.cells [.int .i64 (n:Int),vk] true)
 gens:∃ ck,PL h' vk ck A /\ ∀ a ∈ ck, ∀ j,oid a = some j -> h.next + 2 <= j
 grp:∃ cg,PL h' vg cg work
 frk:∀ j,oid vk = some j -> h.next + 2 <= j
 frg:∀ j,oid vg = some j -> h.next + 2 <= j
 apart:∀ i j,oid vk = some i -> oid vg = some j -> i < j
 id_:PmAt h' vid (one n)
 frid:∀ j,oid vid = some j -> h.next + 2 <= j
 map:h'.get im = some (.map (kset K))
 mlt:h.next + 2 <= im /\ im < h'.next
theorem RdS.gro' {h h' h2:AHeap} {n im:Nat} {vk vid vg:AV} {A work K:List Pm} (s:RdS h h' n im vk vid vg A work K) (g:Gro h' h2):RdS h h2 n im vk vid vg A work K:=by
 have hx:=s.lt
 have hm:=s.mlt
 obtain ⟨ck,c1,c2⟩:=s.gens
 obtain ⟨cg,d1⟩:=s.grp
 exact ⟨s.gro.trans g,by have:=g.le; omega,by rw [g.same _ (by omega)]; exact s.o13,by rw [g.same _ (by omega)]; exact s.o9,⟨ck,c1.gro g,c2⟩,⟨cg,d1.gro g⟩,s.frk,s.frg,s.apart,s.id_.gro g,s.frid,by rw [g.same _ hm.2]; exact s.map,⟨hm.1,by have:=g.le; omega⟩⟩
theorem RdS.put {C : CallT} {h h' : AHeap} {n im : Nat} {vk vid vg va : AV} {A work K : List Pm} {q : Pm} (s : RdS h h' n im vk vid vg A work K) (ha : PmAt h' va q) (hw : work.length <= 1000000) :
  ∃ vg' h2,(∀ tm:List AV,nth tm 4 = .map im -> nth tm 5 = .str q -> evalE (.mupd (.one 2) (.tmp 4) (.tmp 5) (.lit (.bool true))) C tm h' = some (aundef,h'.set im (.map (kset (if q ∈ K then K else K ++ [q]))))) /\ bslV va (h'.set im (.map (kset (if q ∈ K then K else K ++ [q])))) = some (.cells [va] true, .slice h'.next 0 1 (.exact 1)) /\
   appV 1 24 vg (.slice h'.next 0 1 (.exact 1)) ((h'.set im (.map (kset (if q ∈ K then K else K ++ [q])))).push (.cells [va] true)) = some (vg',h2) /\ RdS h h2 n im vk vid vg' A (work ++ [q]) (if q ∈ K then K else K ++ [q]):=by
 have hx:=s.lt
 have hm:=s.mlt
 obtain ⟨ck,c1,c2⟩:=s.gens
 obtain ⟨cg,d1⟩:=s.grp
 have cm:Chg (fun j => j = im) h' (h'.set im (.map (kset (if q ∈ K then K else K ++ [q])))):=Chg.set (F:=fun j => j = im) h' rfl _
 have sm:=soft_map s.map
 have nmk:∀ i,oid vk = some i -> ¬ i = im:=fun i hi e => by
  have:=c1.own.get hi
  rw [e,s.map] at this; cases this
 have nmg:∀ i,oid vg = some i -> ¬ i = im:=fun i hi e => by
  have:=d1.own.get hi
  rw [e,s.map] at this; cases this
 have c1':=c1.stayG cm sm nmk
 have d1':=d1.stayG cm sm nmg
 have ha':=ha.stayG cm sm
 have id':=s.id_.stayG cm sm
 have g1:Gro h (h'.set im (.map (kset (if q ∈ K then K else K ++ [q])))):=s.gro.set (by omega) _
 obtain ⟨k0,vg',h2,k1,k2,k3,k4,k5⟩:=d1'.app ha' hw
 have so:=d1'.soft
 have ap:∀ i,oid vk = some i -> ¬ (oid vg = some i):=fun i hi e => by have:=s.apart i i hi e; omega
 refine ⟨vg',h2,fun tm e1 e2 => mupd_kset s.map (by rw [ev_tmp]; exact e1) (by rw [ev_tmp]; exact e2),k0,k1,?_⟩
 have nx:(h'.set im (.map (kset (if q ∈ K then K else K ++ [q])))).next = h'.next:=rfl
 refine ⟨g1.chg_new k3 fun j hj => by have:=s.frg j hj; omega,by omega,?_,?_,⟨ck,c1'.stayG k3 so ap,c2⟩,⟨_,k2⟩,s.frk,fun j hj => by rw [k4] at hj; cases hj; omega,fun i j hi hj => ?_,id'.stayG k3 so,s.frid,?_,⟨hm.1,by omega⟩⟩
 ·rw [k3.same _ (by omega) fun e => by have:=s.frg _ e; omega,AHeap.get_set_ne _ _ (by omega)]; exact s.o13
 ·rw [k3.same _ (by omega) fun e => by have:=s.frg _ e; omega,AHeap.get_set_ne _ _ (by omega)]; exact s.o9
 ·rw [k4] at hj; cases hj
  have:=c1.own.lt hi; omega
 ·rw [k3.same _ (by omega) fun e => nmg _ e rfl,AHeap.get_set_same]
end Go.AM
namespace Go.AM
open Go Go.GT
section
variable {I:Oracle} (hNo:NoI I) {h:AHeap}
include hNo
theorem jreduced_spec {n : Nat} (hn : n <= 20) {vL : AV} {M : List Pm} (hM : PmsAt h vL M) (hG : ∀ s ∈ M, PV n s) (hcl : ∀ p, Gen n M p -> p ∈ M) (hl : M.length <= 5040) :
  ∃ v cb h',lim otab.get I (.fn 142) [.int .i64 (n:Int),vL] h = some (.agg [.int .i64 (n:Int),v],h') /\ PL h' v cb (red n M) /\ Gro h h' /\ (∀ j,oid v = some j -> h.next <= j) /\ ∀ a ∈ cb, ∀ j,oid a = some j -> h.next <= j:=by
 refine (lim_walk_ex (T:=otab.get) (I:=I) (f:=142) (fn:=of142) rfl (a:=[.int .i64 (n:Int),vL]) (h:=h) (P:=fun a h' => ∃ v cb,a = .agg [.int .i64 (n:Int),v] /\ PL h' v cb (red n M) /\ Gro h h' /\ (∀ j,oid v = some j -> h.next <= j) /\ ∀ a ∈ cb, ∀ j,oid a = some j -> h.next <= j) (hNo.at _ _ (by decide) (by decide) (by decide)) ?_) |> fun ⟨a,h',e,v,cb,q1,q2⟩ => ⟨v,cb,h',by rw [e,q1],q2⟩
 show WK _ _ [] ⟨[.int .i64 (n:Int),vL,aundef,aundef,aundef,aundef,aundef,aundef,aundef,aundef,aundef,aundef,aundef,aundef],h⟩ _
 dsimp only [of142,Z.t,Z.f,Z.i,Z.q,Z.m,Z.l,Z.b,Z.c,Z.w]
 have e2:stV 2 (.ptr (h.next + 1) 0) (.agg [.int .i64 (n:Int), .nils]) ((h.push (.cells [.int .i64 0, .nils] true)).push (.cells [.int .i64 0, .nils] true)) = some (aundef,((h.push (.cells [.int .i64 0, .nils] true)).push (.cells [.int .i64 0, .nils] true)).set (h.next + 1) (.cells [.int .i64 (n:Int), .nils] true)):=stV_two (AHeap.get_push_same (h.push _) _) rfl rfl
 have g2:Gro h (((h.push (.cells [.int .i64 0, .nils] true)).push (.cells [.int .i64 0, .nils] true)).set (h.next + 1) (.cells [.int .i64 (n:Int), .nils] true)):=((Gro.push h _).trans (Gro.push _ _)).set (by omega) _
 have r2:(((h.push (.cells [.int .i64 0, .nils] true)).push (.cells [.int .i64 0, .nils] true)).set (h.next + 1) (.cells [.int .i64 (n:Int), .nils] true)).get (h.next + 1) = some (.cells [.int .i64 (n:Int), .nils] true):=AHeap.get_set_same _ _ _
 have q2:(((h.push (.cells [.int .i64 0, .nils] true)).push (.cells [.int .i64 0, .nils] true)).set (h.next + 1) (.cells [.int .i64 (n:Int), .nils] true)).get h.next = some (.cells [.int .i64 0, .nils] true):=by
  rw [AHeap.get_set_ne _ _ (by omega),AHeap.get_push_lt _ _ (show h.next < h.next + 1 by omega),AHeap.get_push_same]
 have x2:(((h.push (.cells [.int .i64 0, .nils] true)).push (.cells [.int .i64 0, .nils] true)).set (h.next + 1) (.cells [.int .i64 (n:Int), .nils] true)).next = h.next + 2:=rfl
 simp (disch:=omega) only [RSf.down,AHeap.next_push]
 rw [bldC (show ev _ (.tmp 0) = .int .i64 (n:Int) from rfl)]
 simp (disch:=omega) only [RSf.down,AHeap.next_push,e2]
 generalize (((h.push (.cells [.int .i64 0, .nils] true)).push (.cells [.int .i64 0, .nils] true)).set (h.next + 1) (.cells [.int .i64 (n:Int), .nils] true)) = h2 at e2 g2 r2 q2 x2 ⊢
 obtain ⟨vid,h3,f3,n3⟩:=pidentity hNo (h:=h2) hn
 have fid:∀ (hb:AHeap),n3.new = n3.new -> ∀ j,oid vid = some j -> h2.next <= j:=fun _ _ j hj => by
  obtain ⟨i,cap,e,hi⟩:=n3.new
  rw [e] at hj; cases hj; exact hi
 have hid2:∀ j,oid vid = some j -> h.next + 2 <= j:=fun j hj => by have:=fid h2 rfl j hj; omega
 have hbs:bslV vid h3 = some (.cells [vid] true, .slice h3.next 0 1 (.exact 1)):=bslV_sc n3.at_.scalar
 have p4:=PL.one n3.at_
 have pv1:∀ x ∈ [one n],PV n x:=fun x hx => by rw [List.mem_singleton.1 hx]; exact PV.one n
 obtain ⟨K0,h5,f5,m5,x5,g5,k5⟩:=setOf_spec hNo p4.pms pv1 hn (by simp)
 have nx4:(h3.push (.cells [vid] true)).next = h3.next + 1:=rfl
 have g4:Gro h2 (h3.push (.cells [vid] true)):=n3.gro.trans (Gro.push _ _)
 have g45:=g4.trans g5
 have le3:=n3.gro.le
 obtain ⟨cS,s1,s2,s3⟩:=hM
 have hlen:∀ {h':AHeap},lenV 1 vL h' = some (.int .i64 (M.length:Int)):=fun {h'} => by rw [s1.len,s2]
 simp (disch:=omega) only [RSf.down,f3,hbs,f5,hlen]
 rw [nx4] at m5 x5 ⊢
 have S0:RdS h h5 n (h3.next + 1) .nils vid (.slice h3.next 0 1 (.exact 1)) [] [one n] K0 :=
  ⟨g2.trans g45,by have:=g45.le; omega,by rw [g45.same _ (by omega)]; exact q2,by rw [g45.same _ (by omega)]; exact r2,⟨[],PL.nil,fun a ha => by cases ha⟩,⟨_,p4.gro g5⟩,(fun j hj => by cases hj),(fun j hj => by cases hj; omega),(fun i j hi => by cases hi),n3.at_.gro ((Gro.push _ _).trans g5),hid2,m5,⟨by omega,x5⟩⟩
 have hMr:∀ k, ∀ s ∈ red n (M.take k),PV n s:=fun k s hs => hG s (List.mem_of_mem_take (red_mem hs))
 have e0:∀ q,q ∈ K0 ↔ Gen n (red n (M.take 0)) q:=fun q => by
  rw [k5,List.take_zero]
  exact isel_nil.mem q
 generalize h3.next + 1 = im0 at S0
 generalize AV.slice h3.next 0 1 (.exact 1) = vg0 at S0
 refine WK_loopJ (fun k s => k <= M.length /\ ∃ y0 y2 vg im y5 y6 y7 y8 vk work K h',s = ⟨[y0,vL,y2,vg, .map im,y5,y6,y7,y8, .ptr (h.next + 1) 0, .int .i64 (k:Int),vid, .int .i64 (M.length:Int), .ptr h.next 0],h'⟩ /\ RdS h h' n im vk vid vg (red n (M.take k)) work K /\ ∀ q,q ∈ K ↔ Gen n (red n (M.take k)) q) M.length
  ⟨Nat.zero_le _,_,_,_,_,_,_,_,_, .nils, [one n],K0,h5,rfl,S0,e0⟩ ?_
 rintro k hk _ ⟨_,y0,y2,vg,im,y5,y6,y7,y8,vk,work,K,h',rfl,S,hK⟩ next
 by_cases hkl:k < M.length
 ·obtain ⟨p,hp⟩:=get_some hkl
  have s0:=s1.gro S.gro
  obtain ⟨a,ha⟩:=get_some (show k < cS.length by rw [s2]; exact hkl)
  have p0:=s3 k a p ha hp
  have i1:=s0.iaddr (q := .i64) (k:=k) (by rw [s2]; exact hkl)
  have i2:=s0.load ha
  have i3:=p0.gro S.gro
  have hpM:=List.mem_of_getElem? hp
  have hpv:=hG p hpM
  have hst:=red_succ (n:=n) hp
  obtain ⟨h6,f6,g6⟩:=shas_spec hNo S.map S.mlt.2 i3 hpv hn
  have S6:=S.gro' g6
  by_cases hin:p ∈ K
  ·rw [decide_eq_true hin] at f6
   rw [redS_in ((hK p).1 hin)] at hst
   simp (disch:=omega) only [RSf.down,lssT,i1,i2,f6,add1N]
   rw [<- hst] at S6 hK
   exact next hkl _ ⟨by omega,_,_,_,_,_,_,_,_,vk,work,K,h6,rfl,S6,hK⟩
  ·rw [decide_eq_false hin] at f6
   rw [redS_out fun hh => hin ((hK p).2 hh)] at hst
   have hpne:p ≠ []:=fun e => by
    have h0:n = 0:=by rw [<- hpv.len,e]; rfl
    refine hin ((hK p).2 ?_)
    rw [e,show ([]:Pm) = one n by rw [h0]; rfl]; exact .one
   have l6:loadV none (.ptr (h.next + 1) 1) h6 = some vk:=loadV_get S6.o9 rfl
   obtain ⟨vc,h7,f7,a7,g7,fr7⟩:=clone_fn (I:=I) (f:=152) rfl (fun _ _ => hNo.at _ _ (by decide) (by decide) (by decide)) (i3.gro g6) (by rw [hpv.len]; omega)
   have S7:=S6.gro' g7
   have l7:loadV none (.ptr (h.next + 1) 1) h7 = some vk:=loadV_get S7.o9 rfl
   obtain ⟨ck,c1,c2⟩:=S7.gens
   have hAl:(red n (M.take k)).length <= 5040:=by
    have h1:=red_len (n:=n) (M:=M.take k) (A:=[])
    rw [List.length_nil,List.length_take] at h1
    unfold red; omega
   obtain ⟨b8,vk',h8,k1,k2,k3,k4,k5'⟩:=c1.app a7 (by omega)
   have fvc:∀ j,oid vc = some j -> h.next + 2 <= j:=fun j hj => by
    obtain ⟨i,cap,e,hi⟩:=fr7 hpne
    rw [e] at hj; cases hj
    have:=S6.lt; omega
   have so8:=c1.soft
   have x7:=S7.lt
   have o98:h8.get (h.next + 1) = some (.cells [.int .i64 (n:Int),vk] true):=by rw [k3.same _ (by omega) fun e => by have:=S7.frk _ e; omega]; exact S7.o9
   have svk:vk'.scalar = true:=SlAt.scalar k2.own.at
   have e9:stV 1 (.ptr (h.next + 1) 1) vk' h8 = some (aundef,h8.set (h.next + 1) (.cells [.int .i64 (n:Int),vk'] true)):=stV_at (k:=1) o98 (by simp) svk
   have c89:Chg (fun j => j = h.next + 1) h8 (h8.set (h.next + 1) (.cells [.int .i64 (n:Int),vk'] true)):=Chg.set (F:=fun j => j = h.next + 1) h8 rfl _
   have g8:Gro h h8:=S7.gro.chg_new k3 fun j hj => by have:=S7.frk j hj; omega
   have g9:Gro h (h8.set (h.next + 1) (.cells [.int .i64 (n:Int),vk'] true)):=g8.set (by omega) _
   have k29:PL (h8.set (h.next + 1) (.cells [.int .i64 (n:Int),vk'] true)) vk' (ck ++ [vc]) (red n (M.take k) ++ [p]):=by
    refine ⟨k2.own.chg c89 fun i hi e => by rw [k4] at hi; cases hi; omega,k2.len,fun i x q hx hq => (k2.el i x q hx hq).chg c89 fun j hj e => ?_⟩
    have hxm:=List.mem_of_getElem? hx
    rcases List.mem_append.1 hxm with hxm | hxm
    ·have:=c2 x hxm j hj; omega
    ·rw [List.mem_singleton.1 hxm] at hj
     have:=fvc j hj; omega
   have id9:PmAt (h8.set (h.next + 1) (.cells [.int .i64 (n:Int),vk'] true)) vid (one n):=(S7.id_.stayG k3 so8).chg c89 fun j hj e => by have:=S7.frid j hj; omega
   have o99:(h8.set (h.next + 1) (.cells [.int .i64 (n:Int),vk'] true)).get (h.next + 1) = some (.cells [.int .i64 (n:Int),vk'] true):=AHeap.get_set_same _ _ _
   have o39:(h8.set (h.next + 1) (.cells [.int .i64 (n:Int),vk'] true)).get h.next = some (.cells [.int .i64 0, .nils] true):=by
    rw [AHeap.get_set_ne _ _ (by omega),k3.same _ (by omega) fun e => by have:=S7.frk _ e; omega]; exact S7.o13
   have x9:(h8.set (h.next + 1) (.cells [.int .i64 (n:Int),vk'] true)).next = h7.next + 2:=k5'
   simp (disch:=omega) only [RSf.down,lssT,i1,i2,f6,l6,WDV_succ,WDV_zero,f7,WDE_some,checks,lower,recheck,AOp.cls,AV.beq_refl,cond_true,true_and,l7,WDs_bslice0,WDA_some,WDs_append,b8,k1,e9]
   generalize h8.set (h.next + 1) (.cells [.int .i64 (n:Int),vk'] true) = h9 at c89 g9 k29 id9 o99 o39 x9 ⊢
   have b10:bslV vid h9 = some (.cells [vid] true, .slice h9.next 0 1 (.exact 1)):=bslV_sc id9.scalar
   have p10:=PL.one id9
   have nx10:(h9.push (.cells [vid] true)).next = h9.next + 1:=rfl
   have id10:=id9.gro (Gro.push h9 (.cells [vid] true))
   have b11:bslV vid (h9.push (.cells [vid] true)) = some (.cells [vid] true, .slice (h9.next + 1) 0 1 (.exact 1)):=bslV_sc id10.scalar
   have p11:=PL.one id10
   obtain ⟨K12,h12,f12,m12,x12,g12,k12⟩:=setOf_spec hNo p11.pms pv1 hn (by simp)
   rw [nx10] at f12
   have nx11:((h9.push (.cells [vid] true)).push (.cells [vid] true)).next = h9.next + 2:=rfl
   rw [nx11] at f12 m12 x12
   have g11:Gro h9 ((h9.push (.cells [vid] true)).push (.cells [vid] true)):=(Gro.push h9 _).trans (Gro.push _ _)
   have g912:=g11.trans g12
   simp (disch:=omega) only [RSf.down,b10,b11,f12]
   have lt12:=g912.le
   rw [<- hst] at k29
   have S12:RdS h h12 n (h9.next + 2) vk' vid (.slice h9.next 0 1 (.exact 1)) (red n (M.take (k + 1))) [one n] K12:=by
    refine ⟨g9.trans g912,by omega,by rw [g912.same _ (by omega)]; exact o39,by rw [g912.same _ (by omega)]; exact o99,⟨_,k29.gro g912,fun x hx j hj => ?_⟩,⟨_,p10.gro ((Gro.push _ _).trans g12)⟩,fun j hj => by rw [k4] at hj; cases hj; omega,fun j hj => by cases hj; omega,fun i j hi hj => by rw [k4] at hi; cases hi; cases hj; omega,id10.gro ((Gro.push _ _).trans g12),S7.frid,m12,⟨by omega,x12⟩⟩
    rcases List.mem_append.1 hx with hx | hx
    ·exact c2 x hx j hj
    ·rw [List.mem_singleton.1 hx] at hj; exact fvc j hj
   clear S S6 S7 c1 c2 k1 k2 k3 k4 k5' so8 o98 e9 c89 g8 g9 k29 id9 o99 o39 b10 p10 id10 b11 p11 f12 m12 x12 g12 g11 g912 f6 f7 l6 l7 a7 fr7 fvc b8 g6 g7
   generalize hA':red n (M.take (k + 1)) = A at S12 hst
   have hAv:∀ s ∈ A,PV n s:=by rw [<- hA']; exact hMr (k + 1)
   have hAl:A.length <= 5040:=by
    have h1:=red_len (n:=n) (M:=M.take (k + 1)) (A:=[])
    rw [List.length_nil,List.length_take] at h1
    rw [<- hA']; unfold red; omega
   have hAM:∀ q,Gen n A q -> q ∈ M:=fun q hq => hcl q (hq.mono hG fun s hs => Gen.of hG (by rw [<- hA'] at hs; exact List.mem_of_mem_take (red_mem hs)))
   generalize AV.slice h9.next 0 1 (.exact 1) = vg1 at S12
   generalize h9.next + 2 = im1 at S12
   have hkr:M.length + 1 + 0 = M.length + 1:=rfl
   refine WK_loopM (fun m s => ∃ i all work K vg y0 y2 y5 y7 y8 h',s = ⟨[y0,vL,y2,vg, .map im1,y5, .int .i64 ((i:Nat):Int),y7,y8, .ptr (h.next + 1) 0, .int .i64 (k:Int),vid, .int .i64 (M.length:Int), .ptr h.next 0],h'⟩ /\ RdS h h' n im1 vk' vid vg A work K /\ BFS n A all work i 0 /\ (∀ q,q ∈ K ↔ q ∈ work) /\ i <= work.length /\ m + i = M.length + 1) ?_ (M.length + 1) _
    ⟨0, [one n], [one n],K12,vg1,_,_,_,_,_,h12,rfl,S12,BFS.start,k12,Nat.zero_le _,rfl⟩
   rintro m _ ⟨i,all,work,K1,vg,z0,z2,z5,z7,z8,h',rfl,S1,B1,hK1,hiw,hm⟩ more
   have hwM:work.length <= M.length:=nodup_le B1.nd fun q hq => hAM q (B1.gen q hq)
   obtain ⟨cg1,d1⟩:=S1.grp
   by_cases hi:i < work.length
   ·obtain ⟨w,hw⟩:=get_some hi
    have l1:loadV none (.ptr (h.next + 1) 1) h' = some vk':=loadV_get S1.o9 rfl
    obtain ⟨ck1,c1,_⟩:=S1.gens
    simp (disch:=omega) only [RSf.down,d1.pms.len,lssT,l1,c1.pms.len]
    refine WK_loopJ (fun j s => j <= A.length /\ ∃ all work K vg y2 y5 h',s = ⟨[.int .i64 (j:Int),vL,y2,vg, .map im1,y5, .int .i64 (i:Int),vk', .int .i64 (A.length:Int), .ptr (h.next + 1) 0, .int .i64 (k:Int),vid, .int .i64 (M.length:Int), .ptr h.next 0],h'⟩ /\ RdS h h' n im1 vk' vid vg A work K /\ BFS n A all work i j /\ (∀ q,q ∈ K ↔ q ∈ work) /\ work[i]? = some w) A.length
     ⟨Nat.zero_le _,all,work,K1,vg,_,_,h',rfl,S1,B1,hK1,hw⟩ ?_
    clear S1 B1 hK1 hwM d1 hi hw l1 c1 hiw
    rintro j hj _ ⟨_,all,work,K1,vg,z2,z5,h',rfl,S1,B1,hK1,hw⟩ next2
    have hwM:work.length <= M.length:=nodup_le B1.nd fun q hq => hAM q (B1.gen q hq)
    have hiw:i < work.length:=(List.getElem?_eq_some_iff.1 hw).1
    by_cases hja:j < A.length
    ·obtain ⟨ck1,c1,_⟩:=S1.gens
     obtain ⟨cg1,d1⟩:=S1.grp
     obtain ⟨s,hs⟩:=get_some hja
     obtain ⟨j1,a5,j2,j3⟩:=c1.pms.get hs
     obtain ⟨w1,aw,w2,w3⟩:=d1.pms.get hw
     have hsv:=hAv s (List.mem_of_getElem? hs)
     have hwv:=(B1.gen w (List.mem_of_getElem? hw)).pv hAv
     obtain ⟨vq,h13,f13,n13⟩:=mul_fn (I:=I) (f:=158) rfl (fun _ _ => hNo.at _ _ (by decide) (by decide) (by decide)) w3 j3 hwv hsv (by omega)
     have hqv:=hwv.mul hsv
     have S13:=S1.gro' n13.gro
     obtain ⟨h14,f14,g14⟩:=shas_spec hNo S13.map S13.mlt.2 n13.at_ hqv hn
     have S14:=S13.gro' g14
     by_cases hq:mul w s ∈ K1
     ·rw [decide_eq_true hq] at f14
      simp (disch:=omega) only [RSf.down,lssT,j1,j2,w1,w2,f13,f14,not_bool,Bool.not_true,add1N]
      have hmem:=(B1.mem _).2 ((hK1 _).1 hq)
      exact next2 hja _ ⟨by omega,all,work,K1,vg,_,_,h14,rfl,S14,B1.found hs hw hmem,hK1,hw⟩
     ·rw [decide_eq_false hq] at f14
      obtain ⟨h15,f15,g15⟩:=jkey_spec hNo (n13.at_.gro g14) hqv hn
      have S15:=S14.gro' g15
      obtain ⟨vg',h16,u1,u2,u3,u4⟩:=S15.put (C:=lim otab.get I) ((n13.at_.gro g14).gro g15) (by omega)
      rw [if_neg hq] at u1 u2 u3 u4
      have hnm:mul w s ∉ all:=fun hh => hq ((hK1 _).2 ((B1.mem _).1 hh))
      simp (disch:=omega) only [RSf.down,lssT,j1,j2,w1,w2,f13,f14,not_bool,Bool.not_false,f15]
      rw [u1 _ rfl rfl]
      simp (disch:=omega) only [RSf.down,u2,AHeap.next_set,u3,add1N]
      refine next2 hja _ ⟨by omega,putL all (mul w s),work ++ [mul w s],K1 ++ [mul w s],vg',_,_,h16,rfl,u4,B1.new hs hw hnm,fun q => ?_,by rw [List.getElem?_append_left hiw]; exact hw⟩
      rw [List.mem_append,List.mem_append,hK1]
    ·obtain rfl:j = A.length:=by omega
     simp (disch:=omega) only [RSf.down,lssF,add1N]
     exact more (m - 1) _ (by omega) ⟨i + 1,all,work,K1,vg,_,_,_,_,_,h',rfl,S1,B1.next,hK1,by omega,by omega⟩
   ·obtain rfl:i = work.length:=by omega
    simp (disch:=omega) only [RSf.down,d1.pms.len,lssF,add1N]
    have hel:=B1.finish
    have hK2:∀ q,q ∈ K1 ↔ Gen n A q:=fun q => by rw [hK1, <- B1.mem,hel.mem]
    refine next hkl _ ⟨by omega,_,_,vg,im1,_,_,_,_,vk',work,K1,h',rfl,?_,?_⟩
    ·rw [hA']; exact S1
    ·rw [hA']; exact hK2
 ·obtain rfl:k = M.length:=by omega
  rw [List.take_length] at S
  have l1:loadV (some 2) (.ptr (h.next + 1) 0) h' = some (.agg [.int .i64 (n:Int),vk]):=loadV_two S.o9
  obtain ⟨ck,c1,c2⟩:=S.gens
  have svk:vk.scalar = true:=SlAt.scalar c1.own.at
  have e3:stV 2 (.ptr h.next 0) (.agg [.int .i64 (n:Int),vk]) h' = some (aundef,h'.set h.next (.cells [.int .i64 (n:Int),vk] true)):=stV_two S.o13 rfl svk
  simp (disch:=omega) only [RSf.down,lssF,l1,e3]
  have ch:Chg (fun j => j = h.next) h' (h'.set h.next (.cells [.int .i64 (n:Int),vk] true)):=Chg.set (F:=fun j => j = h.next) h' rfl _
  refine ⟨(fun i hi => by cases hi), .agg [.int .i64 (n:Int),vk],result_cell rfl (loadV_two (AHeap.get_set_same _ _ _)),vk,ck,rfl,⟨c1.own.chg ch fun i hi e => by have:=S.frk i hi; omega,c1.len,fun i x q hx hq => (c1.el i x q hx hq).chg ch fun j hj e => by have:=c2 x (List.mem_of_getElem? hx) j hj; omega⟩,S.gro.set (Nat.le_refl _) _,fun j hj => by have:=S.frk j hj; omega,fun a ha j hj => by have:=c2 a ha j hj; omega⟩
end
end Go.AM
