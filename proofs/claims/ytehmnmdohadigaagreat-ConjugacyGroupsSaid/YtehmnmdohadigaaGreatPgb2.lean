/- What the code computes: symbolic runs of the functions. No condition. -/
import Derived.Test.YtehmnmdohadigaaGreatPgb1
set_option linter.unusedSimpArgs false
set_option linter.unusedVariables false
set_option maxRecDepth 100000
namespace Go.AM
open Go Go.GT
theorem find_at {l:List Pm} {f:Pm -> Bool} {x:Pm} {k:Nat} (hx:l[k]? = some x) (h0:∀ y ∈ l.take k,f y = false) (h1:f x = true):l.find? f = some x:=by
 have e:l = l.take k ++ x :: l.drop (k + 1):=by
  obtain ⟨hk,rfl⟩:=List.getElem?_eq_some_iff.1 hx
  rw [<- List.drop_eq_getElem_cons hk,List.take_append_drop]
 rw [e,List.find?_append,List.find?_eq_none.2 fun y hy => by rw [h0 y hy]; decide,List.find?_cons,h1]; rfl
theorem find_congr' {f g:Pm -> Bool}:∀ {l:List Pm},(∀ x ∈ l,f x = g x) -> l.find? f = l.find? g
 | [],_ => rfl
 | x :: l,h => by
  rw [List.find?_cons,List.find?_cons,h x (.head _),find_congr' fun y hy => h y (.tail _ hy)]
def gcj (l m k:List Pm):Option Pm:=l.find? fun x => decide (mvd m x = k)
theorem gcj_eq {n:Nat} {l m k A:List Pm} (pv:∀ x ∈ l,PV n x) (hA:∀ s ∈ A,PV n s) (hm:IsEl n A m) (hk:Asc k) (hcl:∀ p,Gen n k p -> p ∈ k) (pk:∀ s ∈ k,PV n s) (hl:m.length = k.length):gcj l m k = l.find? fun x => A.all fun s => decide (cj s x ∈ k):=by
 unfold gcj
 refine find_congr' fun x hx => ?_
 have px:=pv x hx
 rw [Bool.eq_iff_iff,decide_eq_true_iff,List.all_eq_true]
 constructor
 ·intro e s hs
  rw [decide_eq_true_iff, <- e]
  exact mem_mvd.2 ⟨s,(hm.mem s).2 (Gen.of hA hs),rfl⟩
 ·intro hh
  have hgen:∀ q,Gen n A q -> cj q x ∈ k:=fun q hq => by
   induction hq with
   | one => rw [one_cj px]; exact hcl _ .one
   | mul hx' hs ih =>
    rw [cj_hom (hx'.pv hA) (hA _ hs) px]
    exact hcl _ (Gen.mul' pk (Gen.of pk ih) (Gen.of pk (of_decide_eq_true (hh _ hs))))
  exact mvd_eq (fun s hs => el_pv hA hm hs) px hm.asc.nodup hk (by omega) fun s hs => hgen s ((hm.mem s).1 hs)
section
variable {I:Oracle} (hNo:NoI I) {h:AHeap}
include hNo
theorem gcj1_spec {n : Nat} (hn : n <= 20) {b1 b2 im : Nat} {K A : List Pm} {vA vx : AV} {x : Pm} {d : Int} (l1 : loadV (some 2) (.ptr b1 0) h = some (.agg [.int .i64 d, vA])) (l2 : loadV none (.ptr b2 0) h = some (.map im)) (hg : h.get im = some (.map (kset K))) (him : im < h.next) (hx : PmAt h vx x) (px : PV n x) (hA : PmsAt h vA A) (pA : ∀ p ∈ A, PV n p) (hl : A.length <= 1000000) :
  ∃ h',lim otab.get I (.fn 163) [vx, .ptr b1 0, .ptr b2 0] h = some (.bool (A.all fun s => decide (cj s x ∈ K)),h') /\ Gro h h':=by
 refine (lim_walk_ex (T:=otab.get) (I:=I) (f:=163) (fn:=of163) rfl (a:=[vx, .ptr b1 0, .ptr b2 0]) (h:=h) (P:=fun v h' => v = .bool (A.all fun s => decide (cj s x ∈ K)) /\ Gro h h') (hNo.at _ _ (by decide) (by decide) (by decide)) ?_) |> fun ⟨v,h',e,q1,q2⟩ => ⟨h',by rw [e,q1],q2⟩
 show WK _ _ [] ⟨[vx, .ptr b1 0, .ptr b2 0,aundef],h⟩ _
 dsimp only [of163,Z.t,Z.f,Z.i,Z.q,Z.m,Z.l,Z.b,Z.c,Z.w]
 obtain ⟨h2,f2,g2⟩:=takes_spec hNo hn (d:=d) hg him hx px hA pA hl
 simp (disch:=omega) only [RSf.down,l1,l2,f2]
 exact ⟨(fun i hi => by cases hi),_,rfl,rfl,g2⟩
theorem gcj_range {n : Nat} (hn : n ≤ 20) {i6 i7 ib1 ib2 g : Nat} {x0 x1 x2 x3 x4 x5 x8 x9 x10 x11 x12 x13 x14 x15 x16 x17 x18 x19 x20 x21 x22 x23 x24 x25 x26 x27 x28 x29 x30 x31 x32 x33 x34 x35 x36 vl : AV} {caps TM : List AV} {A B : ACode} {l : List Pm} {f : Pm → Bool}
    (hT:TM = [x0,x1,x2,x3,x4,x5, .ptr i6 0, .ptr i7 0,x8,x9,x10,x11,x12,x13,x14,x15,x16,x17,x18,x19,x20,x21,x22,x23,x24,x25,x26,x27,x28,x29,x30,x31,x32,x33,x34,x35,x36])
    (hA:(ACode.ops [⟨some 11, .mov (.tmp 34),none⟩]) = A) (hB:(ACode.block 1 (.seq (.ops [⟨some 35, .mov (.tmp 11),none⟩,⟨some 36, .call (.lit (.fn (.func 152) [] [])) [.tmp 35],none⟩,⟨none, .store 1 (.tmp 6) (.tmp 36),none⟩,⟨none, .store 1 (.tmp 7) (.lit (.int .i64 0)),none⟩]) .ret)) = B)
    (h6:i6 < h.next) (h7:i7 < h.next) (hne:i6 ≠ i7) (r6:h.get i6 = some (.cells [.nils] true)) (r7:h.get i7 = some (.cells [.int .i64 0] true))
    (k1:ib1 < h.next) (k2:ib2 < h.next) (l1:loadV none (.ptr ib1 0) h = some vl) (l2:loadV none (.ptr ib2 0) h = some (.fn (.func g) [] caps))
    (hl:PmsAt h vl l) (pv:∀ x ∈ l,PV n x) (hL:l.length ≤ 5040)
    (hfit:∀ (hx:AHeap) (a:AV) (p:Pm),Gro h hx → p ∈ l → PmAt hx a p → ∃ hy,lim otab.get I (.fn g) (a :: caps) hx = some (.bool (f p),hy) ∧ Gro hx hy) :
    ∃ v h',lim otab.get I (.fn 213) [.fn (.yield h.next) [] [], .ptr ib1 0, .ptr ib2 0] (h.push (.loop 0 TM [34] A B 0 none)) = some (v,h') ∧
      ((Gro h h' ∧ h'.get h.next = some (.loop 0 TM [34] A B 0 none) ∧ l.find? f = none) ∨
       (h'.get h.next = some (.loop 0 TM [34] A B 2 (some .ret)) ∧ (∃ x vx,l.find? f = some x ∧ h'.get i6 = some (.cells [vx] true) ∧ h'.get i7 = some (.cells [.int .i64 0] true) ∧ PmAt h' vx x ∧ h.next < h'.next ∧ Chg (fun j => j = i6 ∨ j = i7) h h' ∧ (x ≠ [] → ∀ j,oid vx = some j → h.next < j)))):=by
  obtain ⟨cV,s1,s2,s3⟩:=hl
  have hrng:=filter1_spec hNo (h:=h.push (.loop 0 TM [34] A B 0 none)) (lp:=h.next) (ib1:=ib1) (ib2:=ib2) (g:=g) (vl:=vl) (caps:=caps) (cV:=cV)
    (J:=fun k hk => Gro h hk ∧ h.next < hk.next ∧ hk.get h.next = some (.loop 0 TM [34] A B 0 none) ∧ ∀ y ∈ l.take k,f y = false)
    (D:=fun h' => h'.get h.next = some (.loop 0 TM [34] A B 2 (some .ret)) ∧ (∃ x vx,l.find? f = some x ∧ h'.get i6 = some (.cells [vx] true) ∧ h'.get i7 = some (.cells [.int .i64 0] true) ∧ PmAt h' vx x ∧ h.next < h'.next ∧ Chg (fun j => j = i6 ∨ j = i7) h h' ∧ (x ≠ [] → ∀ j,oid vx = some j → h.next < j))) (by omega)
    ⟨Gro.push h _,Nat.lt_succ_self _,AHeap.get_push_same h _,fun y hy => by simp at hy⟩
    (fun k hk hJ => by
      obtain ⟨g0,_⟩:=hJ
      exact ⟨by rw [loadV_same (F:=fun _ => False) g0.chg k1 (fun hf => hf)]; exact l1,by rw [loadV_same (F:=fun _ => False) g0.chg k2 (fun hf => hf)]; exact l2,s1.gro g0⟩)
    (fun k hk z hz hJ => by
      obtain ⟨g0,x0',r0,hno⟩:=hJ
      have hkl:k < l.length:=by rw [← s2]; exact (List.getElem?_eq_some_iff.1 hz).1
      obtain ⟨p,hp⟩:=get_some hkl
      have hpm:=List.mem_of_getElem? hp
      have pz:=s3 k z p hz hp
      obtain ⟨hy,fy,gy⟩:=hfit hk z p g0 hpm (pz.gro g0)
      have gyy:=g0.trans gy
      have xy:h.next < hy.next:=by have:=gy.le; omega
      have rl:hy.get h.next = some (.loop 0 TM [34] A B 0 none):=by rw [gy.same _ x0']; exact r0
      refine ⟨_,hy,fy,fun hf => ?_,fun hf => ?_⟩
      · refine ⟨gyy,xy,rl,fun y hy' => ?_⟩
        rw [take_succ_get hp] at hy'
        rcases List.mem_append.1 hy' with hy' | hy'
        · exact hno y hy'
        · rw [List.mem_singleton.1 hy']; exact hf
      · have hfc:=find_at hp hno hf
        have gs:Gro h (hy.set h.next (.loop 0 TM [34] A B 1 none)):=gyy.set (Nat.le_refl _) _
        have rs:(hy.set h.next (.loop 0 TM [34] A B 1 none)).get h.next = some (.loop 0 TM [34] A B 1 none):=AHeap.get_set_same _ _ _
        have xs:h.next < (hy.set h.next (.loop 0 TM [34] A B 1 none)).next:=xy
        obtain ⟨vc,h8,f8,a8,g8,fr8⟩:=clone_fn (I:=I) (f:=152) rfl (fun _ _ => hNo.at _ _ (by decide) (by decide) (by decide)) (pz.gro gs) (by rw [(pv p hpm).len]; omega)
        have g08:=gs.trans g8
        have q6:h8.get i6 = some (.cells [.nils] true):=by rw [g08.same _ h6]; exact r6
        have q7:h8.get i7 = some (.cells [.int .i64 0] true):=by rw [g08.same _ h7]; exact r7
        have ql:h8.get h.next = some (.loop 0 TM [34] A B 1 none):=by rw [g8.same _ xs]; exact rs
        have e6:stV 1 (.ptr i6 0) vc h8 = some (aundef,h8.set i6 (.cells [vc] true)):=stV_at (k:=0) q6 (by simp) a8.scalar
        have q7':(h8.set i6 (.cells [vc] true)).get i7 = some (.cells [.int .i64 0] true):=by rw [AHeap.get_set_ne _ _ (Ne.symm hne)]; exact q7
        have e7:stV 1 (.ptr i7 0) (.int .i64 0) (h8.set i6 (.cells [vc] true)) = some (aundef,(h8.set i6 (.cells [vc] true)).set i7 (.cells [.int .i64 0] true)):=stV_at (k:=0) q7' (by simp) rfl
        have ql2:((h8.set i6 (.cells [vc] true)).set i7 (.cells [.int .i64 0] true)).get h.next = some (.loop 0 TM [34] A B 1 none):=by rw [AHeap.get_set_ne _ _ (by omega),AHeap.get_set_ne _ _ (by omega)]; exact ql
        have hw:=lim_yield_walk (T:=otab.get) (I:=I) rl (args:=[z]) rfl (Pst:=fun r h' => r = .bool false ∧ h' = ((h8.set i6 (.cells [vc] true)).set i7 (.cells [.int .i64 0] true)).set h.next (.loop 0 TM [34] A B 2 (some .ret))) (by
          subst hT
          subst hA
          subst hB
          show WK _ _ [] ⟨[x0,x1,x2,x3,x4,x5, .ptr i6 0, .ptr i7 0,x8,x9,x10,x11,x12,x13,x14,x15,x16,x17,x18,x19,x20,x21,x22,x23,x24,x25,x26,x27,x28,x29,x30,x31,x32,x33,z,x35,x36],hy⟩ _
          simp (disch:=omega) only [RSf.down]
          refine ⟨trivial,0,_, [34],_,_,none,rl,?_⟩
          simp (disch:=omega) only [RSf.down,f8,e6,e7]
          exact ⟨_,_,endRound_ret ql2,rfl,rfl⟩)
        obtain ⟨r,h',e,rfl,rfl⟩:=hw
        refine ⟨false,_,e,(fun e => by cases e),fun _ => ⟨AHeap.get_set_same _ _ _,p,vc,hfc,?_,?_,?_,?_,?_,?_⟩⟩
        · rw [AHeap.get_set_ne _ _ (by omega),AHeap.get_set_ne _ _ hne,AHeap.get_set_same]
        · rw [AHeap.get_set_ne _ _ (by omega),AHeap.get_set_same]
        · have c1 : Chg (fun j => j = i6 ∨ j = i7 ∨ j = h.next) h8 (((h8.set i6 (.cells [vc] true)).set i7 (.cells [.int .i64 0] true)).set h.next (.loop 0 TM [34] A B 2 (some .ret))) :=
            ((Chg.set (F:=fun j => j = i6 ∨ j = i7 ∨ j = h.next) h8 (.inl rfl) _).trans (Chg.set (F:=fun j => j = i6 ∨ j = i7 ∨ j = h.next) _ (.inr (.inl rfl)) _) fun _ _ hj => hj).trans (Chg.set (F:=fun j => j = i6 ∨ j = i7 ∨ j = h.next) _ (.inr (.inr rfl)) _) fun _ _ hj => hj
          by_cases hp0:p = []
          · subst hp0; exact a8.nil_any c1.le
          · refine a8.chg c1 fun j hj e => ?_
            obtain ⟨i,cap,e1,e2⟩:=fr8 hp0
            rw [e1] at hj; cases hj; have:=gs.le; omega
        · show h.next < h8.next
          have:=g8.le; omega
        · exact ⟨by show h.next ≤ h8.next; have := g8.le; omega, fun j hj hF => by
            rw [AHeap.get_set_ne _ _ (by omega),AHeap.get_set_ne _ _ (fun e => hF (.inr e)),AHeap.get_set_ne _ _ (fun e => hF (.inl e)),g08.same _ hj]⟩
        · intro hp0 j hj
          obtain ⟨i,cap,e1,e2⟩:=fr8 hp0
          rw [e1] at hj; cases hj; exact Nat.lt_of_lt_of_le xs e2)
  obtain ⟨v,h',e,hJ⟩:=hrng
  refine ⟨v,h',e,?_⟩
  rcases hJ with ⟨g0,x0',r0,hno⟩ | hD
  · rw [s2,List.take_length] at hno
    exact .inl ⟨g0,r0,List.find?_eq_none.2 fun y hy => by rw [hno y hy]; decide⟩
  · exact .inr hD
theorem gcj_step {K : List Fr} {Q : AX -> St -> Prop} {n : Nat} (hn : n <= 20) {i6 i7 ib1 ib2 g : Nat} {x0 x1 x2 x3 x4 x5 x8 x9 x10 x11 x12 x13 x14 x15 x16 x17 x18 x19 x20 x21 x22 x23 x24 x25 x26 x27 x28 x29 x30 x31 x32 x34 x35 x36 vl : AV} {caps : List AV} {l : List Pm} {f : Pm -> Bool}
  (h6:i6 < h.next) (h7:i7 < h.next) (hne:i6 ≠ i7) (r6:h.get i6 = some (.cells [.nils] true)) (r7:h.get i7 = some (.cells [.int .i64 0] true))
  (k1:ib1 < h.next) (k2:ib2 < h.next) (l1:loadV none (.ptr ib1 0) h = some vl) (l2:loadV none (.ptr ib2 0) h = some (.fn (.func g) [] caps))
  (hl:PmsAt h vl l) (pv:∀ x ∈ l,PV n x) (hL:l.length <= 5040)
  (hfit:∀ (hx:AHeap) (a:AV) (p:Pm),Gro h hx -> p ∈ l -> PmAt hx a p -> ∃ hy,lim otab.get I (.fn g) (a :: caps) hx = some (.bool (f p),hy) /\ Gro hx hy)
  (c1:∀ h',Gro h h' -> l.find? f = none -> WX (lim otab.get I) .normal K ⟨[x0,x1,x2,x3,x4,x5, .ptr i6 0, .ptr i7 0,x8,x9,x10,x11,x12,x13,x14,x15,x16,x17,x18,x19,x20,x21,x22,x23,x24,x25,x26,x27,x28,x29,x30,x31,x32, .fn (.func 213) [] [.ptr ib1 0, .ptr ib2 0],x34,x35,x36],h'⟩ Q)
  (c2:∀ h' x vx,l.find? f = some x -> h'.get i6 = some (.cells [vx] true) -> h'.get i7 = some (.cells [.int .i64 0] true) -> PmAt h' vx x -> Chg (fun j => j = i6 \/ j = i7) h h' -> WX (lim otab.get I) .ret K ⟨[x0,x1,x2,x3,x4,x5, .ptr i6 0, .ptr i7 0,x8,x9,x10,x11,x12,x13,x14,x15,x16,x17,x18,x19,x20,x21,x22,x23,x24,x25,x26,x27,x28,x29,x30,x31,x32, .fn (.func 213) [] [.ptr ib1 0, .ptr ib2 0],x34,x35,x36],h'⟩ Q) :
  WK (lim otab.get I) (.rangeFunc (.tmp 33) [34] (.ops [⟨some 11, .mov (.tmp 34),none⟩]) (.block 1 (.seq (.ops [⟨some 35, .mov (.tmp 11),none⟩,⟨some 36, .call (.lit (.fn (.func 152) [] [])) [.tmp 35],none⟩,⟨none, .store 1 (.tmp 6) (.tmp 36),none⟩,⟨none, .store 1 (.tmp 7) (.lit (.int .i64 0)),none⟩]) .ret))) K ⟨[x0,x1,x2,x3,x4,x5, .ptr i6 0, .ptr i7 0,x8,x9,x10,x11,x12,x13,x14,x15,x16,x17,x18,x19,x20,x21,x22,x23,x24,x25,x26,x27,x28,x29,x30,x31,x32, .fn (.func 213) [] [.ptr ib1 0, .ptr ib2 0],x34,x35,x36],h⟩ Q:=by
 obtain ⟨v,h',e,r⟩:=gcj_range hNo hn (x0:=x0) (x1:=x1) (x2:=x2) (x3:=x3) (x4:=x4) (x5:=x5) (x8:=x8) (x9:=x9) (x10:=x10) (x11:=x11) (x12:=x12) (x13:=x13) (x14:=x14) (x15:=x15) (x16:=x16) (x17:=x17) (x18:=x18) (x19:=x19) (x20:=x20) (x21:=x21) (x22:=x22) (x23:=x23) (x24:=x24) (x25:=x25) (x26:=x26) (x27:=x27) (x28:=x28) (x29:=x29) (x30:=x30) (x31:=x31) (x32:=x32) (x34:=x34) (x35:=x35) (x36:=x36) (x33 := .fn (.func 213) [] [.ptr ib1 0, .ptr ib2 0]) rfl rfl rfl h6 h7 hne r6 r7 k1 k2 l1 l2 hl pv hL hfit
 rcases r with ⟨g,rl,hf⟩ | ⟨rl,x,vx,hf,q6,q7,px,hx,ch,fr⟩
 ·exact WK_range (f := .tmp 33) (g:=213) (first:=[]) (cap:=[.ptr ib1 0, .ptr ib2 0]) rfl e (endRange_all rl) (c1 _ (g.set (Nat.le_refl _) _) hf)
 ·refine WK_range (f := .tmp 33) (g:=213) (first:=[]) (cap:=[.ptr ib1 0, .ptr ib2 0]) rfl e (endRange_ret rl) (c2 _ x vx hf ?_ ?_ ?_ ?_)
  ·rw [AHeap.get_set_ne _ _ (by omega)]; exact q6
  ·rw [AHeap.get_set_ne _ _ (by omega)]; exact q7
  ·have cs:∀ o,Chg (fun j => j = h.next) h' (h'.set h.next o):=fun o => Chg.set (F:=fun j => j = h.next) h' rfl _
   by_cases hx0:x = []
   ·subst hx0; exact px.nil_any (Nat.le_refl _)
   ·exact px.chg (cs _) fun j hj e => by have:=fr hx0 j hj; omega
  ·exact ch.trans (Chg.set (F:=fun j => j = h.next) h' rfl _) fun j hj e => by omega
end
end Go.AM
namespace Go.AM
open Go Go.GT
def jE3 (d:Int) (ls:List (List Int)) (d2:Int) (ls2:List (List Int)) (d3:Int) (ls3:List (List Int)):Int :=
 if groupErr d ls ≠ 0 then groupErr d ls else if groupErr d2 ls2 ≠ 0 then groupErr d2 ls2 else if groupErr d3 ls3 ≠ 0 then groupErr d3 ls3 else if d2 ≠ d \/ d3 ≠ d then 2 else 0
theorem chk_three {d d2 d3:Int} {vg vg2 vg3:AV} {ls ls2 ls3:List (List Int)}:chkE [(d,vg,ls),(d2,vg2,ls2),(d3,vg3,ls3)] [] = jE3 d ls d2 ls2 d3 ls3:=by
 have e1:firstE (gE [(d,vg,ls),(d2,vg2,ls2),(d3,vg3,ls3)]) 3 = if (if groupErr d ls ≠ 0 then groupErr d ls else groupErr d2 ls2) ≠ 0 then (if groupErr d ls ≠ 0 then groupErr d ls else groupErr d2 ls2) else groupErr d3 ls3:=rfl
 have e0:dgE [(d,vg,ls),(d2,vg2,ls2),(d3,vg3,ls3)] 0 = 0:=by unfold dgE; exact if_neg fun h => h rfl
 have e2:firstE (dgE [(d,vg,ls),(d2,vg2,ls2),(d3,vg3,ls3)]) 3 = if (if d2 ≠ d then (2:Int) else 0) ≠ 0 then (if d2 ≠ d then (2:Int) else 0) else (if d3 ≠ d then 2 else 0):=by
  show (if (if dgE [(d,vg,ls),(d2,vg2,ls2),(d3,vg3,ls3)] 0 ≠ 0 then dgE [(d,vg,ls),(d2,vg2,ls2),(d3,vg3,ls3)] 0 else dgE [(d,vg,ls),(d2,vg2,ls2),(d3,vg3,ls3)] 1) ≠ 0 then (if dgE [(d,vg,ls),(d2,vg2,ls2),(d3,vg3,ls3)] 0 ≠ 0 then dgE [(d,vg,ls),(d2,vg2,ls2),(d3,vg3,ls3)] 0 else dgE [(d,vg,ls),(d2,vg2,ls2),(d3,vg3,ls3)] 1) else dgE [(d,vg,ls),(d2,vg2,ls2),(d3,vg3,ls3)] 2) = _
  rw [if_neg (show ¬ dgE [(d,vg,ls),(d2,vg2,ls2),(d3,vg3,ls3)] 0 ≠ 0 from fun h => h e0)]; rfl
 unfold chkE jE3
 rw [show [(d,vg,ls),(d2,vg2,ls2),(d3,vg3,ls3)].length = 3 from rfl,e1,e2]
 generalize groupErr d ls = a
 generalize groupErr d2 ls2 = b
 generalize groupErr d3 ls3 = c
 by_cases c1:a = 0 <;> by_cases c2:b = 0 <;> by_cases c3:c = 0 <;> by_cases c4:d2 = d <;> by_cases c5:d3 = d <;> simp [c1,c2,c3,c4,c5,firstE]
theorem jE3_zero {d d2 d3:Int} {ls ls2 ls3:List (List Int)} (e0:jE3 d ls d2 ls2 d3 ls3 = 0):groupErr d ls = 0 /\ groupErr d2 ls2 = 0 /\ groupErr d3 ls3 = 0 /\ d2 = d /\ d3 = d:=by
 unfold jE3 at e0
 generalize groupErr d ls = a at e0 ⊢
 generalize groupErr d2 ls2 = b at e0 ⊢
 generalize groupErr d3 ls3 = c at e0 ⊢
 by_cases c1:a = 0
 ·by_cases c2:b = 0
  ·by_cases c3:c = 0
   ·by_cases c4:d2 = d
    ·by_cases c5:d3 = d
     ·exact ⟨c1,c2,c3,c4,c5⟩
     ·simp [c1,c2,c3,c4,c5] at e0
    ·simp [c1,c2,c3,c4] at e0
   ·simp [c1,c2,c3] at e0
  ·simp [c1,c2] at e0
 ·simp [c1] at e0
theorem gs_three {h:AHeap} {d d2 d3:Int} {vg vg2 vg3:AV} {ls ls2 ls3:List (List Int)} (hg:LsAt h vg ls) (hg2:LsAt h vg2 ls2) (hg3:LsAt h vg3 ls3):GsAt (h.push (.cells [.int .i64 d,vg, .int .i64 d2,vg2, .int .i64 d3,vg3] true)) (.slice h.next 0 3 (.exact 3)) [(d,vg,ls),(d2,vg2,ls2),(d3,vg3,ls3)] :=
 ⟨⟨h.next,rfl,Nat.lt_succ_self _,AHeap.get_push_same _ _⟩,fun g hm => by
  rcases List.mem_cons.1 hm with rfl | hm
  ·exact ⟨hg.gro (Gro.push h _),hg.sc⟩
  ·rcases List.mem_cons.1 hm with rfl | hm
   ·exact ⟨hg2.gro (Gro.push h _),hg2.sc⟩
   ·obtain rfl:=List.mem_singleton.1 hm
    exact ⟨hg3.gro (Gro.push h _),hg3.sc⟩⟩
theorem ev_bs3 {d d2 d3:Int} {vg vg2 vg3:AV} {k m p:Nat} {h:AHeap} (tm:List AV) (e:nth tm k = .agg [.int .i64 d,vg]) (e2:nth tm m = .agg [.int .i64 d2,vg2]) (e3:nth tm p = .agg [.int .i64 d3,vg3]):evalA (.bslice 3 2 [.int .i64 0, .nils, .int .i64 0, .nils, .int .i64 0, .nils] [(0, .tmp k),(1, .tmp m),(2, .tmp p)]) tm h = some (.cells [.int .i64 d,vg, .int .i64 d2,vg2, .int .i64 d3,vg3] true, .slice h.next 0 3 (.exact 3)):=by
 simp only [evalA,fillsS,ev_tmp,e,e2,e3]; rfl
section
variable {I:Oracle} (hS:Srt I) {h:AHeap}
include hS
theorem gGcj_spec {vg vg2 vg3 : AV} {ls ls2 ls3 : List (List Int)} (hg : LsAt h vg ls) (hg2 : LsAt h vg2 ls2) (hg3 : LsAt h vg3 ls3) (d d2 d3 : Int) (he : HasEl d ls) (he2 : HasEl d2 ls2) (he3 : HasEl d3 ls3) :
  ∃ (v:AV) (w:Int) (h':AHeap),lim otab.get I (.fn 87) [.agg [.int .i64 d,vg], .agg [.int .i64 d2,vg2], .agg [.int .i64 d3,vg3]] h = some (.tup [v, .int .i64 w],h') /\ Gro h h' /\
   (jE3 d ls d2 ls2 d3 ls3 ≠ 0 -> v = .nils /\ w = jE3 d ls d2 ls2 d3 ls3) /\
   (jE3 d ls d2 ls2 d3 ls3 = 0 -> ∀ l,IsEl d.toNat (gS ls) l -> l.length <= 5040 -> ∀ m,IsEl d.toNat (gS ls2) m -> m.length <= 5040 -> ∀ k,IsEl d.toNat (gS ls3) k -> k.length <= 5040 ->
    (∃ x,gcj l m k = some x /\ PmAt h' v x /\ w = 0) \/ (gcj l m k = none /\ v = .nils /\ w = 10)):=by
 have hNo:=hS.no
 refine (lim_walk_ex (T := otab.get) (I := I) (f := 87) (fn := of87) rfl (a := [.agg [.int .i64 d, vg], .agg [.int .i64 d2, vg2], .agg [.int .i64 d3, vg3]]) (h := h) (P := fun a h' => ∃ v w, a = .tup [v, .int .i64 w] /\ Gro h h' /\
   (jE3 d ls d2 ls2 d3 ls3 ≠ 0 -> v = .nils /\ w = jE3 d ls d2 ls2 d3 ls3) /\
   (jE3 d ls d2 ls2 d3 ls3 = 0 -> ∀ l,IsEl d.toNat (gS ls) l -> l.length <= 5040 -> ∀ m,IsEl d.toNat (gS ls2) m -> m.length <= 5040 -> ∀ k,IsEl d.toNat (gS ls3) k -> k.length <= 5040 ->
    (∃ x,gcj l m k = some x /\ PmAt h' v x /\ w = 0) \/ (gcj l m k = none /\ v = .nils /\ w = 10))) (hNo.at _ _ (by decide) (by decide) (by decide)) ?_) |> fun ⟨a,h',e,v,w,q1,q2⟩ => ⟨v,w,h',by rw [e,q1],q2⟩
 show WK _ _ [] ⟨[.agg [.int .i64 d,vg], .agg [.int .i64 d2,vg2], .agg [.int .i64 d3,vg3],aundef,aundef,aundef,aundef,aundef,aundef,aundef,aundef,aundef,aundef,aundef,aundef,aundef,aundef,aundef,aundef,aundef,aundef,aundef,aundef,aundef,aundef,aundef,aundef,aundef,aundef,aundef,aundef,aundef,aundef,aundef,aundef,aundef,aundef],h⟩ _
 dsimp only [of87,af87,Z.t,Z.q,Z.l,Z.m,Z.b,Z.c,Z.f,Z.i]
 have y1:=Gro.push h (.cells [.int .i64 d,vg] true)
 have y2:=Gro.push (h.push (.cells [.int .i64 d,vg] true)) (.cells [.int .i64 d2,vg2] true)
 have y3:=Gro.push ((h.push (.cells [.int .i64 d,vg] true)).push (.cells [.int .i64 d2,vg2] true)) (.cells [.int .i64 d3,vg3] true)
 have y4:=Gro.push (((h.push (.cells [.int .i64 d,vg] true)).push (.cells [.int .i64 d2,vg2] true)).push (.cells [.int .i64 d3,vg3] true)) (.cells [.nils] true)
 have y5:=Gro.push ((((h.push (.cells [.int .i64 d,vg] true)).push (.cells [.int .i64 d2,vg2] true)).push (.cells [.int .i64 d3,vg3] true)).push (.cells [.nils] true)) (.cells [.int .i64 0] true)
 have x1:(h.push (.cells [.int .i64 d,vg] true)).next = h.next + 1:=rfl
 have x2:((h.push (.cells [.int .i64 d,vg] true)).push (.cells [.int .i64 d2,vg2] true)).next = h.next + 2:=rfl
 have x3:(((h.push (.cells [.int .i64 d,vg] true)).push (.cells [.int .i64 d2,vg2] true)).push (.cells [.int .i64 d3,vg3] true)).next = h.next + 3:=rfl
 have x4:((((h.push (.cells [.int .i64 d,vg] true)).push (.cells [.int .i64 d2,vg2] true)).push (.cells [.int .i64 d3,vg3] true)).push (.cells [.nils] true)).next = h.next + 4:=rfl
 have x5:(((((h.push (.cells [.int .i64 d,vg] true)).push (.cells [.int .i64 d2,vg2] true)).push (.cells [.int .i64 d3,vg3] true)).push (.cells [.nils] true)).push (.cells [.int .i64 0] true)).next = h.next + 5:=rfl
 have ba:=fun {h'} (g:Gro _ h') => box_all (h:=h) (c:=[.int .i64 d,vg]) (r:=true) (h':=h') (y2.trans (y3.trans (y4.trans (y5.trans g)))) (n:=2) rfl
 have bb:=fun {h'} (g:Gro _ h') => box_all (h:=h.push (.cells [.int .i64 d,vg] true)) (c:=[.int .i64 d2,vg2]) (r:=true) (h':=h') (y3.trans (y4.trans (y5.trans g))) (n:=2) rfl
 have bc:=fun {h'} (g:Gro _ h') => box_all (h:=(h.push (.cells [.int .i64 d,vg] true)).push (.cells [.int .i64 d2,vg2] true)) (c:=[.int .i64 d3,vg3]) (r:=true) (h':=h') (y4.trans (y5.trans g)) (n:=2) rfl
 have r6:=AHeap.get_push_same (((h.push (.cells [.int .i64 d,vg] true)).push (.cells [.int .i64 d2,vg2] true)).push (.cells [.int .i64 d3,vg3] true)) (.cells [.nils] true)
 have r7:=AHeap.get_push_same ((((h.push (.cells [.int .i64 d,vg] true)).push (.cells [.int .i64 d2,vg2] true)).push (.cells [.int .i64 d3,vg3] true)).push (.cells [.nils] true)) (.cells [.int .i64 0] true)
 rw [x3] at r6
 rw [x4] at r7
 rw [x1] at bb
 rw [x2] at bc
 have r6':(((((h.push (.cells [.int .i64 d,vg] true)).push (.cells [.int .i64 d2,vg2] true)).push (.cells [.int .i64 d3,vg3] true)).push (.cells [.nils] true)).push (.cells [.int .i64 0] true)).get (h.next + 3) = some (.cells [.nils] true):=by rw [AHeap.get_push_lt _ _ (by omega)]; exact r6
 have g1:=y1.trans (y2.trans (y3.trans (y4.trans y5)))
 have b1:=ba (Gro.refl _)
 have b2:=bb (Gro.refl _)
 have b3:=bc (Gro.refl _)
 simp (disch:=omega) only [RSf.down,b1,b2,b3,x1,x2,x3,x4]
 generalize ((((h.push (.cells [.int .i64 d,vg] true)).push (.cells [.int .i64 d2,vg2] true)).push (.cells [.int .i64 d3,vg3] true)).push (.cells [.nils] true)).push (.cells [.int .i64 0] true) = h1 at g1 ba bb bc b1 b2 b3 r6' r7 x5 ⊢
 rw [ev_bs3 _ rfl rfl rfl]
 have G1:=gs_three (d:=d) (d2:=d2) (d3:=d3) (hg.gro g1) (hg2.gro g1) (hg3.gro g1)
 have g2:=Gro.push h1 (.cells [.int .i64 d,vg, .int .i64 d2,vg2, .int .i64 d3,vg3] true)
 simp (disch:=omega) only [RSf.down]
 generalize h1.push (.cells [.int .i64 d,vg, .int .i64 d2,vg2, .int .i64 d3,vg3] true) = h2 at G1 g2 ⊢
 obtain ⟨h4,f4,g4⟩:=jcheck_spec hNo G1 ls_nil (show 0 < 3 by decide) (show 3 <= 1000 by decide) (by decide) (fun g hm => by
  rcases List.mem_cons.1 hm with rfl | hm
  ·exact he
  ·rcases List.mem_cons.1 hm with rfl | hm
   ·exact he2
   ·obtain rfl:=List.mem_singleton.1 hm; exact he3)
 rw [chk_three] at f4
 have g24:=g2.trans g4
 have q6:∀ {h'},Gro h1 h' -> h'.get (h.next + 3) = some (.cells [.nils] true):=fun g => by rw [g.same _ (by omega)]; exact r6'
 have q7:∀ {h'},Gro h1 h' -> h'.get (h.next + 4) = some (.cells [.int .i64 0] true):=fun g => by rw [g.same _ (by omega)]; exact r7
 have out : ∀ {h'} (g : Gro h1 h') (w : Int), stV 1 (.ptr (h.next + 3) 0) .nils h' = some (aundef, h'.set (h.next + 3) (.cells [.nils] true)) /\ stV 1 (.ptr (h.next + 4) 0) (.int .i64 w) (h'.set (h.next + 3) (.cells [.nils] true)) = some (aundef, (h'.set (h.next + 3) (.cells [.nils] true)).set (h.next + 4) (.cells [.int .i64 w] true)) /\
   loadV none (.ptr (h.next + 3) 0) ((h'.set (h.next + 3) (.cells [.nils] true)).set (h.next + 4) (.cells [.int .i64 w] true)) = some .nils /\ loadV none (.ptr (h.next + 4) 0) ((h'.set (h.next + 3) (.cells [.nils] true)).set (h.next + 4) (.cells [.int .i64 w] true)) = some (.int .i64 w) /\ Gro h ((h'.set (h.next + 3) (.cells [.nils] true)).set (h.next + 4) (.cells [.int .i64 w] true)):=fun {h'} g w => by
  refine ⟨stV_at (k:=0) (q6 g) (by simp) rfl,?_,loadV_get (by rw [AHeap.get_set_ne _ _ (by omega),AHeap.get_set_same]) rfl,loadV_get (AHeap.get_set_same _ _ _) rfl,((g1.trans g).set (by omega) _).set (by omega) _⟩
  have w7':(h'.set (h.next + 3) (.cells [.nils] true)).get (h.next + 4) = some (.cells [.int .i64 0] true):=by rw [AHeap.get_set_ne _ _ (by omega)]; exact q7 g
  exact stV_at (k:=0) w7' (by simp) rfl
 by_cases e0:jE3 d ls d2 ls2 d3 ls3 = 0
 ·rw [e0] at f4
  obtain ⟨hc,hc2,hc3,hd2,hd3⟩:=jE3_zero e0
  subst hd2; subst hd3
  obtain ⟨l,hel,hl⟩:=he hc
  obtain ⟨m,helm,hlm⟩:=he2 hc2
  obtain ⟨k,helk,hlk⟩:=he3 hc3
  have gg:=g1.trans g24
  obtain ⟨n,rfl,hn,_,_,hSv⟩:=group_of_ok hc
  obtain ⟨n2,e2,_,hl2,_,hSv2⟩:=group_of_ok hc2
  obtain rfl:n = n2:=by omega
  obtain ⟨n3,e3,_,_,_,hSv3⟩:=group_of_ok hc3
  obtain rfl:n = n3:=by omega
  rw [Int.toNat_natCast] at hel helm helk
  have b4:=bc g24
  obtain ⟨v5,c5,h5,f5,p5,g5,fr5⟩:=jelements_spec hNo hS (hg3.gro gg) hc3 (by rw [Int.toNat_natCast]; exact helk) hlk
  obtain ⟨K,h6,f6,m6,i6,g6,hK⟩:=setOf_spec hNo p5.pms (fun x hx => el_pv hSv3 helk hx) hn (by omega)
  have g7:=Gro.push h6 (.cells [.nilm] true)
  have e8:stV 1 (.ptr h6.next 0) (.map h5.next) (h6.push (.cells [.nilm] true)) = some (aundef,(h6.push (.cells [.nilm] true)).set h6.next (.cells [.map h5.next] true)):=stV_at (k:=0) (AHeap.get_push_same h6 _) (by simp) rfl
  have g8:Gro h6 ((h6.push (.cells [.nilm] true)).set h6.next (.cells [.map h5.next] true)):=g7.set (Nat.le_refl _) _
  have r8:((h6.push (.cells [.nilm] true)).set h6.next (.cells [.map h5.next] true)).get h6.next = some (.cells [.map h5.next] true):=AHeap.get_set_same _ _ _
  have x8:((h6.push (.cells [.nilm] true)).set h6.next (.cells [.map h5.next] true)).next = h6.next + 1:=rfl
  simp (disch:=omega) only [RSf.down,f4,neqF,b4,f5,f6,e8]
  generalize (h6.push (.cells [.nilm] true)).set h6.next (.cells [.map h5.next] true) = h8 at g8 r8 x8 e8 ⊢
  have g58:=g5.trans (g6.trans g8)
  have k8:=g24.trans g58
  have b8:=bb k8
  obtain ⟨v9,c9,h9,f9,p9,g9,fr9⟩:=jelements_spec hNo hS (hg2.gro (g1.trans k8)) hc2 (by rw [Int.toNat_natCast]; exact helm) hlm
  have p5l:∀ {h':AHeap},lenV 1 v5 h' = some (.int .i64 (k.length:Int)):=fun {h'} => p5.pms.len
  have p9l:∀ {h':AHeap},lenV 1 v9 h' = some (.int .i64 (m.length:Int)):=fun {h'} => p9.pms.len
  have k9:=k8.trans g9
  have uq:∀ {l' m' k':List Pm},IsEl ((n:Int).toNat) (gS ls) l' -> IsEl ((n:Int).toNat) (gS ls2) m' -> IsEl ((n:Int).toNat) (gS ls3) k' -> l' = l /\ m' = m /\ k' = k:=fun a1 a2 a3 => by
   rw [Int.toNat_natCast] at a1 a2 a3
   exact ⟨a1.unique hel,a2.unique helm,a3.unique helk⟩
  by_cases hmk:m.length = k.length
  ·have hb:=ba k9
   obtain ⟨vB,cB,hB,fB,pB,gB,frB⟩:=jelements_spec hNo hS (hg.gro (g1.trans k9)) hc (by rw [Int.toNat_natCast]; exact hel) hl
   have eC:=filter_spec hNo (h:=hB) (va:=vB) (vf := .fn (.func 163) [] [.ptr (h.next + 1) 0, .ptr h6.next 0]) pB.own.at.scalar rfl
   have gC:Gro hB ((hB.push (.cells [vB] true)).push (.cells [.fn (.func 163) [] [.ptr (h.next + 1) 0, .ptr h6.next 0]] true)):=(Gro.push hB _).trans (Gro.push _ _)
   have l1:loadV none (.ptr hB.next 0) ((hB.push (.cells [vB] true)).push (.cells [.fn (.func 163) [] [.ptr (h.next + 1) 0, .ptr h6.next 0]] true)) = some vB:=box_ld (Gro.push _ _) rfl
   have l2:loadV none (.ptr (hB.next + 1) 0) ((hB.push (.cells [vB] true)).push (.cells [.fn (.func 163) [] [.ptr (h.next + 1) 0, .ptr h6.next 0]] true)) = some (.fn (.func 163) [] [.ptr (h.next + 1) 0, .ptr h6.next 0]):=box_ld (h:=hB.push (.cells [vB] true)) (Gro.refl _) rfl
   have xC:((hB.push (.cells [vB] true)).push (.cells [.fn (.func 163) [] [.ptr (h.next + 1) 0, .ptr h6.next 0]] true)).next = hB.next + 2:=rfl
   have hmk':(m.length:Int) = (k.length:Int):=by omega
   simp (disch:=omega) only [RSf.down,b8,f9,p5l,p9l,neqF,hb,fB,eC]
   generalize (hB.push (.cells [vB] true)).push (.cells [.fn (.func 163) [] [.ptr (h.next + 1) 0, .ptr h6.next 0]] true) = hC at eC gC l1 l2 xC ⊢
   have gBC:=gB.trans gC
   have kC:=k9.trans gBC
   have le1:=k8.le
   have le2:=g9.le
   have le3:=gB.le
   have le0:=g24.le
   have hgc:=gcj_eq (A:=gS ls2) (fun x hx => el_pv hSv hel hx) hSv2 helm helk.asc (fun p hp => (helk.mem p).2 (Gen.mono hSv3 (fun s hs => (helk.mem s).1 hs) hp)) (fun s hs => el_pv hSv3 helk hs) hmk
   have hff:l.find? (fun x => (gS ls2).all fun s => decide (cj s x ∈ K)) = gcj l m k:=by
    rw [hgc]
    refine find_congr' fun x _ => ?_
    congr 1; funext s
    exact decide_eq_decide.2 (hK _)
   refine gcj_step hNo hn (g:=163) (i6:=h.next + 3) (i7:=h.next + 4) (ib1:=hB.next) (ib2:=hB.next + 1) (l:=l) (f:=fun x => (gS ls2).all fun s => decide (cj s x ∈ K)) (by omega) (by omega) (by omega) (q6 kC) (q7 kC) (by omega) (by omega) l1 l2 (pB.pms.gro gC) (fun x hx => el_pv hSv hel hx) hl (fun hx a p g hp ha => ?_) ?_ ?_
   ·have G0:=kC.trans g
    refine gcj1_spec hNo hn (d:=(n:Int)) (im:=h5.next) (bb G0) ?_ (by rw [((g8.trans (g9.trans gBC)).trans g).same _ i6]; exact m6) (Nat.lt_of_lt_of_le i6 ((g8.trans (g9.trans gBC)).trans g).le) ha (el_pv hSv hel hp) ((hg2.pmsS hc2).gro (g1.trans G0)) hSv2 (by unfold gS; rw [List.length_map]; omega)
    exact loadV_get (by rw [((g9.trans gBC).trans g).same _ (by omega)]; exact r8) rfl
   ·intro h' g' hf
    obtain ⟨w1,w2,w3,w4,w5⟩:=out (kC.trans g') 10
    simp (disch:=omega) only [RSf.down,w1,w2]
    refine ⟨(fun i hi => by cases hi), .tup [.nils, .int .i64 10],result_cc rfl w3 rfl w4,_,_,rfl,w5,fun h => absurd e0 h,fun _ l' hl' _ m' hm' _ k' hk' _ => .inr ⟨?_,rfl,rfl⟩⟩
    obtain ⟨rfl,rfl,rfl⟩:=uq hl' hm' hk'
    rw [<- hff]; exact hf
   ·intro h' x vx hf z6 z7 px ch
    simp (disch:=omega) only [RSf.down]
    refine ⟨(fun i hi => by cases hi), .tup [vx, .int .i64 0],result_cc rfl (loadV_get z6 rfl) rfl (loadV_get z7 rfl),_,_,rfl,(g1.trans kC).chg_new ch fun j hj => by omega,fun h => absurd e0 h,fun _ l' hl' _ m' hm' _ k' hk' _ => .inl ⟨x,?_,px,rfl⟩⟩
    obtain ⟨rfl,rfl,rfl⟩:=uq hl' hm' hk'
    rw [<- hff]; exact hf
  ·have hmk':(m.length:Int) ≠ (k.length:Int):=by omega
   obtain ⟨w1,w2,w3,w4,w5⟩:=out k9 10
   simp (disch:=omega) only [RSf.down,b8,f9,p5l,p9l,neqT hmk',w1,w2]
   refine ⟨(fun i hi => by cases hi), .tup [.nils, .int .i64 10],result_cc rfl w3 rfl w4,_,_,rfl,w5,fun h => absurd e0 h,fun _ l' hl' _ m' hm' _ k' hk' _ => .inr ⟨?_,rfl,rfl⟩⟩
   obtain ⟨rfl,rfl,rfl⟩:=uq hl' hm' hk'
   unfold gcj
   refine List.find?_eq_none.2 fun x hx => ?_
   rw [decide_eq_true_iff]
   intro e
   have:=mvd_len (fun s hs => el_pv hSv2 helm hs) (el_pv hSv hel hx) helm.asc.nodup
   rw [e] at this
   exact hmk this.symm
 ·obtain ⟨w1,w2,w3,w4,w5⟩:=out g24 (jE3 d ls d2 ls2 d3 ls3)
  simp (disch:=omega) only [RSf.down,f4,neqT e0,w1,w2]
  exact ⟨(fun i hi => by cases hi), .tup [.nils, .int .i64 (jE3 d ls d2 ls2 d3 ls3)],result_cc rfl w3 rfl w4,_,_,rfl,w5,fun _ => ⟨rfl,rfl⟩,fun h => absurd h e0⟩
end
end Go.AM
namespace Go.AM
open Go Go.GT
theorem PL.nint' {h:AHeap} {v:AV} {c:List AV} {ps:List Pm} (s:PL h v c ps):∀ k n,v ≠ .int k n:=fun k n e => by
 subst e
 rcases s.own with ⟨e,_⟩ | ⟨_,_,e,_⟩ <;> cases e
structure LLAt (h:AHeap) (v:AV) (R:List (List Pm)):Prop where
 ex:∃ c,Own 1 h v R.length c /\ c.length = R.length /\ Sls c /\ ∀ (i:Nat) (r:List Pm),R[i]? = some r -> ∃ a ca,c[i]? = some a /\ PL h a ca r /\ ∀ j,oid a = some j -> oid v ≠ some j
theorem LLAt.nil {h:AHeap}:LLAt h .nils []:=⟨[],Own.nil,rfl,(fun x hx => by cases hx),fun i r hi => by simp at hi⟩
theorem LLAt.gro {h h':AHeap} {v:AV} {R:List (List Pm)} (s:LLAt h v R) (g:Gro h h'):LLAt h' v R:=by
 obtain ⟨c,o,l,sl,e⟩:=s.ex
 exact ⟨c,o.gro g,l,sl,fun i r hi => by obtain ⟨a,ca,a1,a2,a3⟩:=e i r hi; exact ⟨a,ca,a1,a2.gro g,a3⟩⟩
theorem LLAt.len {h:AHeap} {v:AV} {R:List (List Pm)} (s:LLAt h v R) {h':AHeap}:lenV 1 v h' = some (.int .i64 (R.length:Int)):=by
 obtain ⟨c,o,_⟩:=s.ex
 rcases o with ⟨rfl,e,_⟩ | ⟨i,cap,rfl,_⟩
 ·rw [e]; rfl
 ·rfl
theorem LLAt.get {h:AHeap} {v:AV} {R:List (List Pm)} (s:LLAt h v R) {i:Nat} {r:List Pm} (hi:R[i]? = some r):iaddrV 1 v (.int .i64 (i:Int)) = some (eaddr v i) /\ ∃ a ca,loadV none (eaddr v i) h = some a /\ PL h a ca r:=by
 obtain ⟨c,o,l,_,e⟩:=s.ex
 obtain ⟨a,ca,a1,a2,_⟩:=e i r hi
 have hic:i < c.length:=(List.getElem?_eq_some_iff.1 a1).1
 exact ⟨o.at.iaddr (q := .i64) hic,a,ca,o.at.load a1,a2⟩
theorem LLAt.app {h : AHeap} {v a : AV} {ca : List AV} {R : List (List Pm)} {r : List Pm} (s : LLAt h v R) (ha : PL h a ca r) (h1 : ∀ j, oid a = some j -> oid v ≠ some j) (hb : R.length <= 100000) :
  bslV a h = some (.cells [a] true, .slice h.next 0 1 (.exact 1)) /\ ∃ v' h',appV 1 24 v (.slice h.next 0 1 (.exact 1)) (h.push (.cells [a] true)) = some (v',h') /\ LLAt h' v' (R ++ [r]) /\ Chg (fun j => oid v = some j) h h' /\ oid v' = some (h.next + 1) /\ h'.next = h.next + 2:=by
 obtain ⟨c,o,l,sl,e⟩:=s.ex
 have sa:a.scalar = true:=SlAt.scalar ha.own.at
 obtain ⟨v',h',k1,k2,k3,k4,k5⟩:=o.app1 (bytes:=24) (c:=[a]) rfl (by simp [sa]) (by decide) (by omega)
 have sf:Soft (fun j => oid v = some j) h:=fun i hi hf => .inr ⟨c,true,o.get hf,sl⟩
 refine ⟨bslV_sc sa,v',h',k1,⟨c ++ [a],by rw [List.length_append]; exact k2,by rw [List.length_append,List.length_append,l]; rfl,fun x hx => ?_,fun i r' hi => ?_⟩,k3,k4,k5⟩
 ·rcases List.mem_append.1 hx with hx | hx
  ·exact sl x hx
  ·rw [List.mem_singleton.1 hx]; exact ha.nint'
 ·by_cases hlt:i < R.length
  ·rw [List.getElem?_append_left hlt] at hi
   obtain ⟨a',ca',a1,a2,a3⟩:=e i r' hi
   refine ⟨a',ca',by rw [List.getElem?_append_left (by omega)]; exact a1,a2.stayG k3 sf (fun j hj hf => a3 j hj hf),fun j hj hf => ?_⟩
   rw [k4] at hf; cases hf
   have:=a2.own.lt hj; omega
  ·have hi2 : i = R.length := by
    have:=(List.getElem?_eq_some_iff.1 hi).1
    rw [List.length_append,List.length_singleton] at this; omega
   subst hi2
   rw [List.getElem?_append_right (Nat.le_refl _),Nat.sub_self] at hi
   cases hi
   refine ⟨a,ca,by rw [List.getElem?_append_right (by omega),l,Nat.sub_self]; rfl,ha.stayG k3 sf (fun j hj hf => h1 j hj hf),fun j hj hf => ?_⟩
   rw [k4] at hf; cases hf
   have:=ha.own.lt hj; omega
theorem LLAt.lt {h:AHeap} {v:AV} {R:List (List Pm)} (s:LLAt h v R) {i:Nat} (hi:oid v = some i):i < h.next:=by
 obtain ⟨c,o,_⟩:=s.ex
 exact o.lt hi
section
variable {I:Oracle} (hNo:NoI I) {h:AHeap}
include hNo
theorem kgcj_spec {n : Nat} {vl vm vk : AV} {l m k : List Pm} (hl : PmsAt h vl l) (hm : PmsAt h vm m) (hk : PmsAt h vk k) (pv : ∀ x ∈ l, PV n x) (pm : ∀ x ∈ m, PV n x) (pk : ∀ x ∈ k, PV n x) (nd : m.Nodup) (hn : n <= 20) (hL : l.length <= 5040) (hLm : m.length <= 5040) :
  ∃ (v:AV) (f:Bool) (h':AHeap),lim otab.get I (.fn 90) [vl,vm,vk] h = some (.tup [v, .bool f],h') /\ Gro h h' /\ ((∃ x,gcj l m k = some x /\ PmAt h' v x /\ f = true) \/ (gcj l m k = none /\ v = .nils /\ f = false)):=by
 refine (lim_walk_ex (T:=otab.get) (I:=I) (f:=90) (fn:=of90) rfl (a:=[vl,vm,vk]) (h:=h) (P:=fun r h' => ∃ v f,r = .tup [v, .bool f] /\ Gro h h' /\ ((∃ x,gcj l m k = some x /\ PmAt h' v x /\ f = true) \/ (gcj l m k = none /\ v = .nils /\ f = false))) (hNo.at _ _ (by decide) (by decide) (by decide)) ?_) |> fun ⟨r,h',e,v,f,q1,q2⟩ => ⟨v,f,h',by rw [e,q1],q2⟩
 show WK _ _ [] ⟨[vl,vm,vk,aundef,aundef],h⟩ _
 dsimp only [of90,Z.t,Z.f,Z.i,Z.q,Z.m,Z.l,Z.b,Z.c,Z.w]
 simp (disch:=omega) only [RSf.down]
 refine WK_loopJ (fun i s => i <= l.length /\ ∃ y4 h',s = ⟨[vl,vm,vk, .int .i64 (i:Int),y4],h'⟩ /\ Gro h h' /\ ∀ y ∈ l.take i,decide (mvd m y = k) = false) l.length
  ⟨Nat.zero_le _,_,h,rfl,Gro.refl _,fun y hy => by simp at hy⟩ ?_
 rintro i hi _ ⟨_,y4,h',rfl,g,hno⟩ next
 by_cases hil:i < l.length
 ·obtain ⟨x,hx⟩:=get_some hil
  have px:=pv x (List.mem_of_getElem? hx)
  obtain ⟨i1,a,i2,pz⟩:=(PmsAt.gro' hl g).get hx
  obtain ⟨v4,c4,h4,f4,p4,g4,_⟩:=kmoved_spec hNo (PmsAt.gro' hm g) pz pm px nd hn hLm
  have gg:=g.trans g4
  have i2b:loadV none (eaddr vl i) h4 = some a:=by
   obtain ⟨cl,s1,s2,s3⟩:=PmsAt.gro' hl g
   have hic:i < cl.length:=by omega
   obtain ⟨b,hb⟩:=get_some hic
   have e1:=s1.load hb
   have e2:=(s1.gro g4).load hb
   rw [e2, <- e1]; exact i2
  have hml:(mvd m x).length <= 5040:=Nat.le_trans len_mvd hLm
  have f5:=same_perms hNo p4.pms (PmsAt.gro' hk gg) (by omega) (fun q hq => by obtain ⟨s,hs,rfl⟩:=mem_mvd.1 hq; rw [(PV.cj (pm s hs) px).len]; omega) (fun q hq => by rw [(pk q hq).len]; omega)
  by_cases e:mvd m x = k
  ·rw [decide_eq_true e] at f5
   simp (disch:=omega) only [RSf.down,hl.len,lssT,i1,i2,f4,f5,i2b]
   exact ⟨(fun i hi => by cases hi),_,rfl,_,_,rfl,gg, .inl ⟨x,find_at hx hno (decide_eq_true e),pz.gro g4,rfl⟩⟩
  ·rw [decide_eq_false e] at f5
   simp (disch:=omega) only [RSf.down,hl.len,lssT,i1,i2,f4,f5,add1N]
   refine next hil _ ⟨by omega,_,h4,rfl,gg,fun y hy => ?_⟩
   rw [take_succ_get hx] at hy
   rcases List.mem_append.1 hy with hy | hy
   ·exact hno y hy
   ·rw [List.mem_singleton.1 hy]; exact decide_eq_false e
 ·obtain rfl:i = l.length:=by omega
  rw [List.take_length] at hno
  simp (disch:=omega) only [RSf.down,hl.len,lssF]
  exact ⟨(fun i hi => by cases hi),_,rfl,_,_,rfl,g, .inr ⟨List.find?_eq_none.2 fun y hy => by rw [hno y hy]; decide,rfl,rfl⟩⟩
theorem kcjg_spec {n : Nat} {vl vm : AV} {l m : List Pm} (hl : PmsAt h vl l) (hm : PmsAt h vm m) (pv : ∀ x ∈ l, PV n x) (pm : ∀ x ∈ m, PV n x) (nd : m.Nodup) (hn : n <= 20) (hL : l.length <= 5040) (hLm : m.length <= 5040) :
  ∃ (v:AV) (h':AHeap),lim otab.get I (.fn 89) [vl,vm] h = some (v,h') /\ Gro h h' /\ LLAt h' v (cjg l m):=by
 refine (lim_walk_ex (T:=otab.get) (I:=I) (f:=89) (fn:=of89) rfl (a:=[vl,vm]) (h:=h) (P:=fun v h' => Gro h h' /\ LLAt h' v (cjg l m)) (hNo.at _ _ (by decide) (by decide) (by decide)) ?_) |> fun ⟨v,h',e,q2⟩ => ⟨v,h',e,q2⟩
 show WK _ _ [] ⟨[vl,vm,aundef,aundef,aundef,aundef,aundef,aundef,aundef],h⟩ _
 dsimp only [of89,Z.t,Z.f,Z.i,Z.q,Z.m,Z.l,Z.b,Z.c,Z.w]
 simp (disch:=omega) only [RSf.down]
 refine WK_loopJ (fun k s => k <= l.length /\ ∃ y2 y3 y5 y6 y7 vo h',s = ⟨[vl,vm,y2,y3,vo,y5,y6,y7, .int .i64 (k:Int)],h'⟩ /\ Gro h h' /\ LLAt h' vo (cjg (l.take k) m) /\ ∀ j,oid vo = some j -> h.next <= j) l.length
  ⟨Nat.zero_le _,_,_,_,_,_, .nils,h,rfl,Gro.refl _,by rw [List.take_zero]; exact LLAt.nil,(fun j hj => by cases hj)⟩ ?_
 rintro k hk _ ⟨_,y2,y3,y5,y6,y7,vo,h',rfl,g,R,fr⟩ next
 by_cases hkl:k < l.length
 ·obtain ⟨x,hx⟩:=get_some hkl
  have px:=pv x (List.mem_of_getElem? hx)
  obtain ⟨i1,a,i2,pz⟩:=(PmsAt.gro' hl g).get hx
  obtain ⟨v4,c4,h4,f4,p4,g4,fr4⟩:=kmoved_spec hNo (PmsAt.gro' hm g) pz pm px nd hn hLm
  have gg:=g.trans g4
  have R4:=R.gro g4
  have hml:(mvd m x).length <= 5040:=Nat.le_trans len_mvd hLm
  have hst:=cjg_succ (m:=m) hx
  have hcl:=cjg_len (l:=l) (m:=m) (k:=k) (by omega)
  simp (disch:=omega) only [RSf.down,hl.len,lssT,i1,i2,f4]
  refine WK_loopJ (fun j s => j <= (cjg (l.take k) m).length /\ ∃ y3 y6 f,s = ⟨[vl,vm, .int .i64 (j:Int),y3,vo, .bool f,y6,v4, .int .i64 (k:Int)],h4⟩ /\ (f = true -> ∀ r ∈ (cjg (l.take k) m).take j,r ≠ mvd m x) /\ (f = false -> mvd m x ∈ cjg (l.take k) m)) (cjg (l.take k) m).length
   ⟨Nat.zero_le _,_,_,true,rfl,(fun _ r hr => by simp at hr),(fun e => by cases e)⟩ ?_
  rintro j hj _ ⟨_,z3,z6,f,rfl,hf1,hf2⟩ next2
  by_cases hjl:j < (cjg (l.take k) m).length
  ·cases f with
   | true =>
    obtain ⟨r,hr⟩:=get_some hjl
    obtain ⟨j1,b,cb,j2,j3⟩:=R4.get hr
    have hrm:=List.mem_of_getElem? hr
    obtain ⟨y,hy,hye⟩:=(mem_cjg (by omega)).1 hrm
    have py:=pv y (List.mem_of_mem_take hy)
    have f5:=same_perms hNo j3.pms p4.pms (by rw [<- hye]; exact Nat.le_trans len_mvd (by omega)) (fun q hq => by rw [<- hye] at hq; obtain ⟨s,hs,rfl⟩:=mem_mvd.1 hq; rw [(PV.cj (pm s hs) py).len]; omega) (fun q hq => by obtain ⟨s,hs,rfl⟩:=mem_mvd.1 hq; rw [(PV.cj (pm s hs) px).len]; omega)
    simp (disch:=omega) only [RSf.down,R4.len,lssT,j1,j2,f5,not_bool,add1N]
    refine next2 hjl _ ⟨by omega,_,_,_,rfl,fun hf r' hr' => ?_,fun hf => ?_⟩
    ·rw [Bool.not_eq_true',decide_eq_false_iff_not] at hf
     have e:(cjg (l.take k) m).take (j + 1) = (cjg (l.take k) m).take j ++ [r]:=by rw [List.take_add_one,hr]; rfl
     rw [e] at hr'
     rcases List.mem_append.1 hr' with hr' | hr'
     ·exact hf1 rfl r' hr'
     ·rw [List.mem_singleton.1 hr']; exact hf
    ·rw [Bool.not_eq_false',decide_eq_true_eq] at hf
     rw [<- hf]; exact hrm
   | false =>
    have hin:=hf2 rfl
    rw [if_pos hin] at hst
    simp (disch:=omega) only [RSf.down,R4.len,lssT,add1N]
    exact next hkl _ ⟨by omega,_,_,_,_,_,vo,h4,rfl,gg,by rw [hst]; exact R4,fr⟩
  ·obtain rfl:j = (cjg (l.take k) m).length:=by omega
   cases f with
   | true =>
    have hout:mvd m x ∉ cjg (l.take k) m:=fun hh => hf1 rfl _ (by rw [List.take_length]; exact hh) rfl
    rw [if_neg hout] at hst
    obtain ⟨k0,v',h5,k1,k2,k3,k4,k5⟩:=R4.app p4 (fun j hj e => by have:=fr4 j hj; have:=R.lt e; omega) (by omega)
    simp (disch:=omega) only [RSf.down,R4.len,lssF,k0,k1,add1N]
    refine next hkl _ ⟨by omega,_,_,_,_,_,v',h5,rfl,gg.chg_new k3 fun j hj => fr j hj,by rw [hst]; exact k2,fun j hj => ?_⟩
    rw [k4] at hj; cases hj; have:=gg.le; omega
   | false =>
    have hin:=hf2 rfl
    rw [if_pos hin] at hst
    simp (disch:=omega) only [RSf.down,R4.len,lssF,add1N]
    exact next hkl _ ⟨by omega,_,_,_,_,_,vo,h4,rfl,gg,by rw [hst]; exact R4,fr⟩
 ·obtain rfl:k = l.length:=by omega
  rw [List.take_length] at R
  simp (disch:=omega) only [RSf.down,hl.len,lssF]
  exact ⟨(fun i hi => by cases hi),_,rfl,g,R⟩
theorem three_spec {vg vg2 vg3 : AV} {ls ls2 ls3 : List (List Int)} (hg : LsAt h vg ls) (hg2 : LsAt h vg2 ls2) (hg3 : LsAt h vg3 ls3) (d d2 d3 : Int) :
  ∃ h',lim otab.get I (.fn 88) [.agg [.int .i64 d,vg], .agg [.int .i64 d2,vg2], .agg [.int .i64 d3,vg3]] h = some (.int .i64 (jE3 d ls d2 ls2 d3 ls3),h') /\ Gro h h':=by
 refine (lim_walk_ex (T:=otab.get) (I:=I) (f:=88) (fn:=of88) rfl (a:=[.agg [.int .i64 d,vg], .agg [.int .i64 d2,vg2], .agg [.int .i64 d3,vg3]]) (h:=h) (P:=fun v h' => v = .int .i64 (jE3 d ls d2 ls2 d3 ls3) /\ Gro h h') (hNo.at _ _ (by decide) (by decide) (by decide)) ?_) |> fun ⟨v,h',e,q1,q2⟩ => ⟨h',by rw [e,q1],q2⟩
 show WK _ _ [] ⟨[.agg [.int .i64 d,vg], .agg [.int .i64 d2,vg2], .agg [.int .i64 d3,vg3],aundef,aundef,aundef,aundef],h⟩ _
 dsimp only [of88,Z.t,Z.f,Z.i,Z.q,Z.m,Z.l,Z.b,Z.c,Z.w]
 have y1:=Gro.push h (.cells [.int .i64 d,vg] true)
 have y2:=Gro.push (h.push (.cells [.int .i64 d,vg] true)) (.cells [.int .i64 d2,vg2] true)
 have y3:=Gro.push ((h.push (.cells [.int .i64 d,vg] true)).push (.cells [.int .i64 d2,vg2] true)) (.cells [.int .i64 d3,vg3] true)
 have x1:(h.push (.cells [.int .i64 d,vg] true)).next = h.next + 1:=rfl
 have x2:((h.push (.cells [.int .i64 d,vg] true)).push (.cells [.int .i64 d2,vg2] true)).next = h.next + 2:=rfl
 have ba:=fun {h'} (g:Gro _ h') => box_all (h:=h) (c:=[.int .i64 d,vg]) (r:=true) (h':=h') (y2.trans (y3.trans g)) (n:=2) rfl
 have bb:=fun {h'} (g:Gro _ h') => box_all (h:=h.push (.cells [.int .i64 d,vg] true)) (c:=[.int .i64 d2,vg2]) (r:=true) (h':=h') (y3.trans g) (n:=2) rfl
 have bc:=fun {h'} (g:Gro _ h') => box_all (h:=(h.push (.cells [.int .i64 d,vg] true)).push (.cells [.int .i64 d2,vg2] true)) (c:=[.int .i64 d3,vg3]) (r:=true) (h':=h') g (n:=2) rfl
 have la:=fun {h'} (g:Gro _ h') => box_ld (h:=h) (c:=[.int .i64 d,vg]) (r:=true) (h':=h') (y2.trans (y3.trans g)) (o:=0) rfl
 have lb:=fun {h'} (g:Gro _ h') => box_ld (h:=h.push (.cells [.int .i64 d,vg] true)) (c:=[.int .i64 d2,vg2]) (r:=true) (h':=h') (y3.trans g) (o:=0) rfl
 have lc:=fun {h'} (g:Gro _ h') => box_ld (h:=(h.push (.cells [.int .i64 d,vg] true)).push (.cells [.int .i64 d2,vg2] true)) (c:=[.int .i64 d3,vg3]) (r:=true) (h':=h') g (o:=0) rfl
 rw [x1] at bb lb
 rw [x2] at bc lc
 have b1:=ba (Gro.refl _)
 have b2:=bb (Gro.refl _)
 have b3:=bc (Gro.refl _)
 have g1:=y1.trans (y2.trans y3)
 simp (disch:=omega) only [RSf.down,b1,b2,b3,x1,x2]
 generalize ((h.push (.cells [.int .i64 d,vg] true)).push (.cells [.int .i64 d2,vg2] true)).push (.cells [.int .i64 d3,vg3] true) = h1 at g1 ba bb bc la lb lc b1 b2 b3 ⊢
 rw [ev_bs3 _ rfl rfl rfl]
 have g2:=Gro.push h1 (.cells [.int .i64 d,vg, .int .i64 d2,vg2, .int .i64 d3,vg3] true)
 have r2:=AHeap.get_push_same h1 (.cells [.int .i64 d,vg, .int .i64 d2,vg2, .int .i64 d3,vg3] true)
 have xn:(h1.push (.cells [.int .i64 d,vg, .int .i64 d2,vg2, .int .i64 d3,vg3] true)).next = h1.next + 1:=rfl
 have le1:∀ {h'},lenV 1 (.slice h1.next 0 3 (.exact 3)) h' = some (.int .i64 3):=fun {h'} => rfl
 simp (disch:=omega) only [RSf.down]
 generalize h1.push (.cells [.int .i64 d,vg, .int .i64 d2,vg2, .int .i64 d3,vg3] true) = h2 at g2 r2 xn ⊢
 have rr:∀ {h'},Gro h2 h' -> h'.get h1.next = some (.cells [.int .i64 d,vg, .int .i64 d2,vg2, .int .i64 d3,vg3] true):=fun g => by rw [g.same _ (by omega)]; exact r2
 have ld0:∀ {h'},Gro h2 h' -> loadV (some 2) (.ptr h1.next 0) h' = some (.agg [.int .i64 d,vg]):=fun {h'} g => by
  show (match cellsOf h' h1.next with | some c => fit (some 2) 0 c | none => none) = _
  rw [cellsOf_get (rr g)]; rfl
 have ld1:∀ {h'},Gro h2 h' -> loadV (some 2) (.ptr h1.next 2) h' = some (.agg [.int .i64 d2,vg2]):=fun {h'} g => by
  show (match cellsOf h' h1.next with | some c => fit (some 2) 2 c | none => none) = _
  rw [cellsOf_get (rr g)]; rfl
 have ld2:∀ {h'},Gro h2 h' -> loadV (some 2) (.ptr h1.next 4) h' = some (.agg [.int .i64 d3,vg3]):=fun {h'} g => by
  show (match cellsOf h' h1.next with | some c => fit (some 2) 4 c | none => none) = _
  rw [cellsOf_get (rr g)]; rfl
 have ia0:iaddrV 2 (.slice h1.next 0 3 (.exact 3)) (.int .i64 0) = some (.ptr h1.next 0):=iaddrV_ok (sz:=2) (j:=h1.next) (o:=0) (c := .exact 3) (k := .i64) (i:=0) (by decide)
 have ia1:iaddrV 2 (.slice h1.next 0 3 (.exact 3)) (.int .i64 1) = some (.ptr h1.next 2):=iaddrV_ok (sz:=2) (j:=h1.next) (o:=0) (c := .exact 3) (k := .i64) (i:=1) (by decide)
 have ia2:iaddrV 2 (.slice h1.next 0 3 (.exact 3)) (.int .i64 2) = some (.ptr h1.next 4):=iaddrV_ok (sz:=2) (j:=h1.next) (o:=0) (c := .exact 3) (k := .i64) (i:=2) (by decide)
 obtain ⟨h3,f3,g3⟩:=rgcheck hNo (hg.gro (g1.trans g2)) d
 obtain ⟨h4,f4,g4⟩:=rgcheck hNo (hg2.gro (g1.trans (g2.trans g3))) d2
 obtain ⟨h5,f5,g5⟩:=rgcheck hNo (hg3.gro (g1.trans (g2.trans (g3.trans g4)))) d3
 have G3:=g1.trans (g2.trans g3)
 have G4:=G3.trans g4
 have G5:=G4.trans g5
 have k5:=g2.trans (g3.trans (g4.trans g5))
 have a0:=ld0 (Gro.refl _)
 have a1:=ld1 g3
 have a2:=ld2 (g3.trans g4)
 have p0:bin .add .no (.int .i64 0) (.int .i64 1) = some (.int .i64 1):=rfl
 have p1:bin .add .no (.int .i64 1) (.int .i64 1) = some (.int .i64 2):=rfl
 have p2:bin .add .no (.int .i64 2) (.int .i64 1) = some (.int .i64 3):=rfl
 have t0:bin .lss .no (.int .i64 0) (.int .i64 3) = some (.bool true):=rfl
 have t1:bin .lss .no (.int .i64 1) (.int .i64 3) = some (.bool true):=rfl
 have t2:bin .lss .no (.int .i64 2) (.int .i64 3) = some (.bool true):=rfl
 have t3:bin .lss .no (.int .i64 3) (.int .i64 3) = some (.bool false):=rfl
 by_cases c1:groupErr d ls = 0
 ·rw [c1] at f3
  refine WK_loop ?_
  simp (disch:=omega) only [RSf.down,le1,t0,ia0,a0,f3,neqF,p0]
  by_cases c2:groupErr d2 ls2 = 0
  ·rw [c2] at f4
   refine WK_loop ?_
   simp (disch:=omega) only [RSf.down,le1,t1,ia1,a1,f4,neqF,p1]
   by_cases c3:groupErr d3 ls3 = 0
   ·rw [c3] at f5
    refine WK_loop ?_
    simp (disch:=omega) only [RSf.down,le1,t2,ia2,a2,f5,neqF,p2]
    refine WK_loop ?_
    have l5:=la k5
    have m5:=lb k5
    have q5:=lc k5
    by_cases c4:d = d2
    ·subst c4
     by_cases c5:d = d3
     ·subst c5
      have e3:jE3 d ls d ls2 d ls3 = 0:=by unfold jE3; simp [c1,c2,c3]
      rw [e3]
      simp (disch:=omega) only [RSf.down,le1,t3,l5,m5,q5,neqF]
      exact ⟨(fun i hi => by cases hi),_,rfl,rfl,G5⟩
     ·have e3:jE3 d ls d ls2 d3 ls3 = 2:=by unfold jE3; rw [if_neg fun h => h c1,if_neg fun h => h c2,if_neg fun h => h c3,if_pos (.inr fun e => c5 e.symm)]
      rw [e3]
      simp (disch:=omega) only [RSf.down,le1,t3,l5,m5,q5,neqF,neqT c5]
      exact ⟨(fun i hi => by cases hi),_,rfl,rfl,G5⟩
    ·have e3:jE3 d ls d2 ls2 d3 ls3 = 2:=by unfold jE3; rw [if_neg fun h => h c1,if_neg fun h => h c2,if_neg fun h => h c3,if_pos (.inl fun e => c4 e.symm)]
     rw [e3]
     simp (disch:=omega) only [RSf.down,le1,t3,l5,m5,neqT c4]
     exact ⟨(fun i hi => by cases hi),_,rfl,rfl,G5⟩
   ·have e3:jE3 d ls d2 ls2 d3 ls3 = groupErr d3 ls3:=by unfold jE3; rw [if_neg fun h => h c1,if_neg fun h => h c2,if_pos c3]
    rw [e3]
    refine WK_loop ?_
    simp (disch:=omega) only [RSf.down,le1,t2,ia2,a2,f5,neqT c3]
    exact ⟨(fun i hi => by cases hi),_,rfl,rfl,G5⟩
  ·have e3:jE3 d ls d2 ls2 d3 ls3 = groupErr d2 ls2:=by unfold jE3; rw [if_neg fun h => h c1,if_pos c2]
   rw [e3]
   refine WK_loop ?_
   simp (disch:=omega) only [RSf.down,le1,t1,ia1,a1,f4,neqT c2]
   exact ⟨(fun i hi => by cases hi),_,rfl,rfl,G4⟩
 ·have e3:jE3 d ls d2 ls2 d3 ls3 = groupErr d ls:=by unfold jE3; rw [if_pos c1]
  rw [e3]
  refine WK_loop ?_
  simp (disch:=omega) only [RSf.down,le1,t0,ia0,a0,f3,neqT c1]
  exact ⟨(fun i hi => by cases hi),_,rfl,rfl,G3⟩
end
end Go.AM
namespace Go.AM
open Go Go.GT
theorem cut_pair:∀ {c:List AV} {k:Nat} {x y:AV},c[k]? = some x -> c[k + 1]? = some y -> cut c k 2 = some [x,y]
 | [],_,_,_,h,_ => by simp at h
 | [_],0,_,_,_,h => by simp at h
 | a :: b :: c,0,x,y,h1,h2 => by
  simp at h1 h2; subst h1; subst h2
  rw [cut_cons,cut_cons,cut_zero]
 | a :: c,k + 1,x,y,h1,h2 => by
  rw [cut_succ]; exact cut_pair (by simpa using h1) (by simpa using h2)
theorem GrsAt.get {h : AHeap} {lo : Nat} {v : AV} {n : Nat} {R : List (List Pm)} (s : GrsAt h lo v n R) {i : Nat} {r : List Pm} (hi : R[i]? = some r) :
  ∃ p a ca,iaddrV 2 v (.int .i64 (i:Int)) = some p /\ (∀ h',Gro h h' -> loadV (some 2) p h' = some (.agg [.int .i64 (n:Int),a])) /\ PL h a ca r:=by
 obtain ⟨c,o,e⟩:=s.ex
 obtain ⟨a,ca,a1,a2,a3,_⟩:=e i r hi
 have hil:=(List.getElem?_eq_some_iff.1 hi).1
 rcases o with ⟨_,e0,_⟩ | ⟨j,cap,rfl,_,_,hj,hg⟩
 ·rw [e0] at hil; exact absurd hil (Nat.not_lt_zero _)
 ·refine ⟨.ptr j (i * 2),a,ca,?_,fun h' g => ?_,a3⟩
  ·have:=iaddrV_ok (sz:=2) (j:=j) (o:=0) (c:=cap) (k := .i64) hil
   rwa [Nat.zero_add] at this
  ·show (match cellsOf h' j with | some c => fit (some 2) (i * 2) c | none => none) = _
   rw [cellsOf_get (by rw [g.same _ hj]; exact hg)]
   show (match cut c (i * 2) 2 with | some r => some (AV.agg r) | none => none) = _
   rw [cut_pair a1 a2]
theorem jE3_two {d d2 d3:Int} {ls ls2 ls3:List (List Int)} (e:jE3 d ls d2 ls2 d3 ls3 = 0):jE2 d ls d2 ls2 = 0:=by
 obtain ⟨c1,c2,_,c4,_⟩:=jE3_zero e
 unfold jE2; rw [if_neg fun h => h c1,if_neg fun h => h c2,if_neg fun h => h c4]
section
variable {I:Oracle} (hC:Cjc I) {h:AHeap}
include hC
theorem lawGrp_spec {vg vg2 vg3 : AV} {ls ls2 ls3 : List (List Int)} (hg : LsAt h vg ls) (d : Int) (hg2 : LsAt h vg2 ls2) (d2 : Int) (hg3 : LsAt h vg3 ls3) (d3 : Int) :
  ∃ h',lim otab.get I (.fn 18) [.agg [.int .i64 d,vg], .agg [.int .i64 d2,vg2], .agg [.int .i64 d3,vg3]] h = some (.bool true,h') /\ Gro h h':=by
 have hNo:=hC.srt.no
 refine (lim_walk_ex (T:=otab.get) (I:=I) (f:=18) (fn:=of18) rfl (a:=[.agg [.int .i64 d,vg], .agg [.int .i64 d2,vg2], .agg [.int .i64 d3,vg3]]) (h:=h) (P:=fun a h' => a = .bool true /\ Gro h h') (hNo.at _ _ (by decide) (by decide) (by decide)) ?_) |> fun ⟨a,h',e,q1,q2⟩ => ⟨h',by rw [e,q1],q2⟩
 show WK _ _ [] ⟨[.agg [.int .i64 d,vg], .agg [.int .i64 d2,vg2], .agg [.int .i64 d3,vg3],aundef,aundef,aundef,aundef,aundef,aundef,aundef,aundef,aundef],h⟩ _
 dsimp only [of18,Z.t,Z.f,Z.i,Z.q,Z.m,Z.l,Z.b,Z.c,Z.w]
 have y1:=Gro.push h (.cells [.int .i64 d,vg] true)
 have y2:=Gro.push (h.push (.cells [.int .i64 d,vg] true)) (.cells [.int .i64 d2,vg2] true)
 have y3:=Gro.push ((h.push (.cells [.int .i64 d,vg] true)).push (.cells [.int .i64 d2,vg2] true)) (.cells [.int .i64 d3,vg3] true)
 have x1:(h.push (.cells [.int .i64 d,vg] true)).next = h.next + 1:=rfl
 have x2:((h.push (.cells [.int .i64 d,vg] true)).push (.cells [.int .i64 d2,vg2] true)).next = h.next + 2:=rfl
 have ba:=fun {h'} (g:Gro _ h') => box_all (h:=h) (c:=[.int .i64 d,vg]) (r:=true) (h':=h') (y2.trans (y3.trans g)) (n:=2) rfl
 have bb:=fun {h'} (g:Gro _ h') => box_all (h:=h.push (.cells [.int .i64 d,vg] true)) (c:=[.int .i64 d2,vg2]) (r:=true) (h':=h') (y3.trans g) (n:=2) rfl
 have bc:=fun {h'} (g:Gro _ h') => box_all (h:=(h.push (.cells [.int .i64 d,vg] true)).push (.cells [.int .i64 d2,vg2] true)) (c:=[.int .i64 d3,vg3]) (r:=true) (h':=h') g (n:=2) rfl
 have la:=fun {h'} (g:Gro _ h') => box_ld (h:=h) (c:=[.int .i64 d,vg]) (r:=true) (h':=h') (y2.trans (y3.trans g)) (o:=0) rfl
 rw [x1] at bb
 rw [x2] at bc
 have g1:=y1.trans (y2.trans y3)
 obtain ⟨h2,f2,g2⟩:=awake25_spec hC (h:=((h.push (.cells [.int .i64 d,vg] true)).push (.cells [.int .i64 d2,vg2] true)).push (.cells [.int .i64 d3,vg3] true))
 simp (disch:=omega) only [RSf.down,x1,x2,f2,not_bool,Bool.not_true]
 generalize ((h.push (.cells [.int .i64 d,vg] true)).push (.cells [.int .i64 d2,vg2] true)).push (.cells [.int .i64 d3,vg3] true) = h1 at g1 ba bb bc la f2 g2 ⊢
 have a2:=ba g2
 have ln:∀ {h':AHeap},lenV 1 .nils h' = some (.int .i64 0):=fun {h'} => rfl
 obtain ⟨h3,f3,g3⟩:=large25_spec hNo (hg.gro (g1.trans g2)) d
 have k3:=g2.trans g3
 by_cases s1:Lrg d ls
 ·rw [decide_eq_true s1] at f3
  obtain ⟨hz,fz,gz⟩:=awake25_spec hC (h:=h3)
  simp (disch:=omega) only [RSf.down,a2,f3,fz]
  exact ⟨(fun i hi => by cases hi),_,rfl,rfl,g1.trans (k3.trans gz)⟩
 rw [decide_eq_false s1] at f3
 have b3:=bb k3
 obtain ⟨h4,f4,g4⟩:=large25_spec hNo (hg2.gro (g1.trans k3)) d2
 have k4:=k3.trans g4
 by_cases s2:Lrg d2 ls2
 ·rw [decide_eq_true s2] at f4
  obtain ⟨hz,fz,gz⟩:=awake25_spec hC (h:=h4)
  simp (disch:=omega) only [RSf.down,a2,f3,b3,f4,fz]
  exact ⟨(fun i hi => by cases hi),_,rfl,rfl,g1.trans (k4.trans gz)⟩
 rw [decide_eq_false s2] at f4
 have c4:=bc k4
 obtain ⟨h5,f5,g5⟩:=large25_spec hNo (hg3.gro (g1.trans k4)) d3
 have k5:=k4.trans g5
 by_cases s3:Lrg d3 ls3
 ·rw [decide_eq_true s3] at f5
  obtain ⟨hz,fz,gz⟩:=awake25_spec hC (h:=h5)
  simp (disch:=omega) only [RSf.down,a2,f3,b3,f4,c4,f5,fz]
  exact ⟨(fun i hi => by cases hi),_,rfl,rfl,g1.trans (k5.trans gz)⟩
 rw [decide_eq_false s3] at f5
 have a5:=ba k5
 have b5:=bb k5
 obtain ⟨v6,h6,f6,g6,e6,t6⟩:=gCjg_spec hC.srt (hg.gro (g1.trans k5)) (hg2.gro (g1.trans k5)) d d2 (Lrg.has s1) (Lrg.has s2)
 have k6:=k5.trans g6
 have a6:=ba k6
 have b6:=bb k6
 have c6:=bc k6
 obtain ⟨v7,w7,h7,f7,g7,e7,t7⟩:=gGcj_spec hC.srt (hg.gro (g1.trans k6)) (hg2.gro (g1.trans k6)) (hg3.gro (g1.trans k6)) d d2 d3 (Lrg.has s1) (Lrg.has s2) (Lrg.has s3)
 have k7:=k6.trans g7
 have a7:=ba k7
 have b7:=bb k7
 obtain ⟨h8,f8,g8⟩:=rtwo_spec hNo (hg.gro (g1.trans k7)) (hg2.gro (g1.trans k7)) d d2
 have k8:=k7.trans g8
 have a8:=ba k8
 have b8:=bb k8
 have c8:=bc k8
 obtain ⟨h9,f9,g9⟩:=three_spec hNo (hg.gro (g1.trans k8)) (hg2.gro (g1.trans k8)) (hg3.gro (g1.trans k8)) d d2 d3
 have k9:=k8.trans g9
 simp (disch:=omega) only [RSf.down,a2,f3,b3,f4,c4,f5,a5,b5,f6,a6,b6,c6,f7,a7,b7,f8]
 clear a2 f3 b3 f4 c4 f5 a5 b5 f6 a6 b6 c6 f7 a7 b7 f8
 by_cases e3:jE3 d ls d2 ls2 d3 ls3 = 0
 ·have e2:=jE3_two e3
  rw [e3] at f9
  rw [e2]
  obtain ⟨hc,hc2,hc3,hd2,hd3⟩:=jE3_zero e3
  subst hd2; subst hd3
  obtain ⟨n,rfl,hn,_,hls,hSv⟩:=group_of_ok hc
  obtain ⟨n2,en2,_,_,hls2,hSv2⟩:=group_of_ok hc2
  obtain rfl:n = n2:=by omega
  obtain ⟨n3,en3,_,_,hls3,hSv3⟩:=group_of_ok hc3
  obtain rfl:n = n3:=by omega
  have a9:=ba k9
  have q1:(gS ls).length <= 1000000:=by unfold gS; rw [List.length_map]; omega
  have q2:(gS ls2).length <= 1000000:=by unfold gS; rw [List.length_map]; omega
  have q3:(gS ls3).length <= 1000000:=by unfold gS; rw [List.length_map]; omega
  obtain ⟨vA,hA,fA,gA,rA⟩:=elements_spec hNo ((hg.gro (g1.trans k9)).pms hls) hSv (by omega) q1
  rcases rA with ⟨l,vl,cl,r1,r2,rfl,r4,r5⟩ | ⟨r1,rfl⟩
  case inr =>
   have:=Lrg.fits s1 hc
   rw [Int.toNat_natCast] at this
   exact absurd this r1
  have kA:=k9.trans gA
  have bA:=bb kA
  obtain ⟨vB,hB,fB,gB,rB⟩:=elements_spec hNo ((hg2.gro (g1.trans kA)).pms hls2) hSv2 (by omega) q2
  rcases rB with ⟨m,vm,cm,m1,m2,rfl,m4,m5⟩ | ⟨m1,rfl⟩
  case inr =>
   have:=Lrg.fits s2 hc2
   rw [Int.toNat_natCast] at this
   exact absurd this m1
  have kB:=kA.trans gB
  have cB:=bc kB
  obtain ⟨vD,hD,fD,gD,rD⟩:=elements_spec hNo ((hg3.gro (g1.trans kB)).pms hls3) hSv3 (by omega) q3
  rcases rD with ⟨k,vk,ck,n1,n2,rfl,n4,n5⟩ | ⟨n1,rfl⟩
  case inr =>
   have:=Lrg.fits s3 hc3
   rw [Int.toNat_natCast] at this
   exact absurd this n1
  have kD:=kB.trans gD
  have hL:l.length <= 5040:=by omega
  have hLm:m.length <= 5040:=by omega
  have hLk:k.length <= 5040:=by omega
  have t7':=t7 e3 l (by rw [Int.toNat_natCast]; exact r1) hL m (by rw [Int.toNat_natCast]; exact m1) hLm k (by rw [Int.toNat_natCast]; exact n1) hLk
  have lenM:∀ {h':AHeap},lenV 1 vm h' = some (.int .i64 (m.length:Int)):=fun {h'} => m4.pms.len
  have lenK:∀ {h':AHeap},lenV 1 vk h' = some (.int .i64 (k.length:Int)):=fun {h'} => n4.pms.len
  have ne10:(10:Int) ≠ 0:=by decide
  simp (disch:=omega) only [RSf.down,neqF,a8,b8,c8,f9,a9,fA,bA,fB,cB,fD,lenM]
  clear a8 b8 c8 f9 a9 fA bA fB cB fD
  by_cases hm24:24 < m.length
  ·rcases t7' with ⟨x,_,_,rfl⟩ | ⟨_,_,rfl⟩
   ·simp (disch:=omega) only [RSf.down,gtrT,eqlT]
    exact ⟨(fun i hi => by cases hi),_,rfl,rfl,g1.trans kD⟩
   ·simp (disch:=omega) only [RSf.down,gtrT,eqlT,eqlF ne10]
    exact ⟨(fun i hi => by cases hi),_,rfl,rfl,g1.trans kD⟩
  by_cases hk24:24 < k.length
  ·rcases t7' with ⟨x,_,_,rfl⟩ | ⟨_,_,rfl⟩
   ·simp (disch:=omega) only [RSf.down,gtrF,lenK,gtrT,eqlT]
    exact ⟨(fun i hi => by cases hi),_,rfl,rfl,g1.trans kD⟩
   ·simp (disch:=omega) only [RSf.down,gtrF,lenK,gtrT,eqlT,eqlF ne10]
    exact ⟨(fun i hi => by cases hi),_,rfl,rfl,g1.trans kD⟩
  have pv:∀ x ∈ l,PV n x:=fun x hx => el_pv hSv r1 hx
  have pm:∀ x ∈ m,PV n x:=fun x hx => el_pv hSv2 m1 hx
  have pk:∀ x ∈ k,PV n x:=fun x hx => el_pv hSv3 n1 hx
  have gBD:=gB.trans gD
  obtain ⟨vE,hE,fE,gE,RE⟩:=kcjg_spec hNo (r4.pms.gro gBD) (m4.pms.gro gD) pv pm m1.asc.nodup hn hL hLm
  have kE:=kD.trans gE
  obtain ⟨lo,GR⟩:=t6 e2 l (by rw [Int.toNat_natCast]; exact r1) hL m (by rw [Int.toNat_natCast]; exact m1) hLm
  rw [Int.toNat_natCast] at GR
  have lenG:∀ {h':AHeap},lenV 1 v6 h' = some (.int .i64 ((cjg l m).length:Int)):=fun {h'} => by
   have:=GR.len (h':=h'); rwa [List.length_map] at this
  have gg6:Gro h6 hE:=g7.trans (g8.trans (g9.trans (gA.trans (gBD.trans gE))))
  have GE:=GR.gro gg6
  have hcl:(cjg l m).length <= l.length:=by
   have:=cjg_len (l:=l) (m:=m) (Nat.le_refl _); rwa [List.take_length] at this
  simp (disch:=omega) only [RSf.down,gtrF,lenK,fE,neqF,lenG,RE.len]
  clear fE
  refine WK_loopJ (fun i s => i <= (cjg l m).length /\ ∃ y2 y3 y4 h',s = ⟨[.int .i64 (i:Int),v6,y2,y3,y4, .ptr h.next 0,vE, .int .i64 w7,vm,v7,vl,vk],h'⟩ /\ Gro hE h') (cjg l m).length
   ⟨Nat.zero_le _,_,_,_,hE,rfl,Gro.refl _⟩ ?_
  rintro i hi _ ⟨_,z2,z3,z4,h',rfl,g⟩ next
  by_cases hil:i < (cjg l m).length
  ·obtain ⟨r,hr⟩:=get_some hil
   have hrm:=List.mem_of_getElem? hr
   have hrm':r ∈ cjg (l.take l.length) m:=by rw [List.take_length]; exact hrm
   obtain ⟨x,hx,hxe⟩:=(mem_cjg (Nat.le_refl _)).1 hrm'
   rw [List.take_length] at hx
   have px:=pv x hx
   obtain ⟨p,a,ca,i1,i2,i3⟩:=(GE.gro g).get (show ((cjg l m).map (red n))[i]? = some (red n r) by rw [List.getElem?_map,hr]; rfl)
   obtain ⟨j1,b,cb,j2,j3⟩:=(RE.gro g).get hr
   have l5:=la (kE.trans g)
   have pr:∀ s ∈ r,PV n s:=by rw [<- hxe]; exact mvd_pv hSv2 m1 px
   have rl:r.length <= 24:=by rw [<- hxe]; exact Nat.le_trans len_mvd (by omega)
   obtain ⟨vF,cF,hF,fF,pF,gF⟩:=greedy_spec hNo hn j3.pms pr (by rw [<- hxe]; exact asc_mvd) (by rw [<- hxe]; exact mvd_closed hSv2 m1 px) (by omega)
   obtain ⟨hG,fG,gG⟩:=equal_spec hNo (n:=(n:Int)) (i3.gro gF) pF (fun q hq => by rw [(pr q (red_mem hq)).len]; omega) (Nat.le_trans (red_le (show r.length <= 240 by omega)) (by decide))
   have i2a:=i2 h' (Gro.refl _)
   have i2b:=i2 hF gF
   simp (disch:=omega) only [RSf.down,lenG,lssT,i1,i2a,i2b,l5,j1,j2,WDV_succ,WDV_zero,fF,WDE_some,WDE_none,checks,lower,recheck,AOp.cls,AV.beq_refl,cond_true,true_and,fG,WDs_un,evalQ_un,not_bool,Bool.not_true,add1N]
   exact next hil _ ⟨by omega,_,_,_,hG,rfl,g.trans (gF.trans gG)⟩
  ·obtain rfl:i = (cjg l m).length:=by omega
   have kZ:=kE.trans g
   obtain ⟨vJ,fJ,hJ,f12,g12,c12⟩:=kgcj_spec hNo (r4.pms.gro (gBD.trans (gE.trans g))) (m4.pms.gro (gD.trans (gE.trans g))) (n4.pms.gro (gE.trans g)) pv pm pk m1.asc.nodup hn hL hLm
   have gr:Gro h7 hJ:=g8.trans (g9.trans (gA.trans (gBD.trans (gE.trans (g.trans g12)))))
   have fin:=g1.trans (kZ.trans g12)
   rcases t7' with ⟨x,u1,u2,rfl⟩ | ⟨u1,rfl,rfl⟩
   ·rcases c12 with ⟨y,w1,w2,rfl⟩ | ⟨w1,_,_⟩
    ·rw [u1] at w1
     obtain rfl:=Option.some.inj w1
     have px:=pv x (List.mem_of_find?_eq_some u1)
     have f13:=same_pm hNo (u2.gro gr) w2 (by rw [px.len]; omega)
     rw [decide_eq_true rfl] at f13
     simp (disch:=omega) only [RSf.down,lenG,lssF,f12,f13,eqlT]
     exact ⟨(fun i hi => by cases hi),_,rfl,rfl,fin⟩
    ·rw [u1] at w1; cases w1
   ·rcases c12 with ⟨y,w1,_⟩ | ⟨_,rfl,rfl⟩
    ·rw [u1] at w1; cases w1
    ·have f13:=same_pm hNo (h:=hJ) (va := .nils) (vb := .nils) (p:=[]) (q:=[]) (.inl ⟨rfl,rfl⟩) (.inl ⟨rfl,rfl⟩) (by decide)
     rw [decide_eq_true rfl] at f13
     simp (disch:=omega) only [RSf.down,lenG,lssF,f12,f13,not_bool,Bool.not_false,eqlT]
     exact ⟨(fun i hi => by cases hi),_,rfl,rfl,fin⟩
 ·obtain ⟨rfl,rfl⟩:=e7 e3
  by_cases e2:jE2 d ls d2 ls2 = 0
  ·rw [e2]
   simp (disch:=omega) only [RSf.down,neqF,a8,b8,c8,f9,neqT e3,ln,eqlT]
   exact ⟨(fun i hi => by cases hi),_,rfl,rfl,g1.trans k9⟩
  ·obtain rfl:=e6 e2
   simp (disch:=omega) only [RSf.down,neqT e2,ln,gtrF,neqF,a8,b8,c8,f9,neqT e3,eqlT]
   exact ⟨(fun i hi => by cases hi),_,rfl,rfl,g1.trans k9⟩
end
end Go.AM
