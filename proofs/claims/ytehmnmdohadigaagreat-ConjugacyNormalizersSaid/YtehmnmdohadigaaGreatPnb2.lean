/- What the code computes: symbolic runs of the functions. No condition. -/
import Derived.Test.YtehmnmdohadigaaGreatPnb1
set_option linter.unusedSimpArgs false
set_option linter.unusedVariables false
set_option maxRecDepth 100000
namespace Go.AM
open Go Go.GT
theorem find_at {l:List Pm} {f:Pm -> Bool} {x:Pm} {k:Nat} (hx:l[k]? = some x) (h0:∀ y ∈ l.take k,f y = false) (h1:f x = true):l.find? f = some x:=by
 have e:l = l.take k ++ x :: l.drop (k + 1):=by
  obtain ⟨hk,rfl⟩:=List.getElem?_eq_some_iff.1 hx
  rw [<- List.drop_eq_getElem_cons hk,List.take_append_drop]
 rw [e,List.find?_append,List.find?_eq_none.2 fun y hy => by rw [h0 y hy]; decide,List.find?_cons,h1]; rfl
theorem find_congr' {f g:Pm -> Bool}:∀ {l:List Pm},(∀ x ∈ l,f x = g x) -> l.find? f = l.find? g
 | [],_ => rfl
 | x :: l,h => by
  rw [List.find?_cons,List.find?_cons,h x (.head _),find_congr' fun y hy => h y (.tail _ hy)]
def gcj (l m k:List Pm):Option Pm:=l.find? fun x => decide (mvd m x = k)
theorem gcj_eq {n:Nat} {l m k A:List Pm} (pv:∀ x ∈ l,PV n x) (hA:∀ s ∈ A,PV n s) (hm:IsEl n A m) (hk:Asc k) (hcl:∀ p,Gen n k p -> p ∈ k) (pk:∀ s ∈ k,PV n s) (hl:m.length = k.length):gcj l m k = l.find? fun x => A.all fun s => decide (cj s x ∈ k):=by
 unfold gcj
 refine find_congr' fun x hx => ?_
 have px:=pv x hx
 rw [Bool.eq_iff_iff,decide_eq_true_iff,List.all_eq_true]
 constructor
 ·intro e s hs
  rw [decide_eq_true_iff, <- e]
  exact mem_mvd.2 ⟨s,(hm.mem s).2 (Gen.of hA hs),rfl⟩
 ·intro hh
  have hgen:∀ q,Gen n A q -> cj q x ∈ k:=fun q hq => by
   induction hq with
   | one => rw [one_cj px]; exact hcl _ .one
   | mul hx' hs ih =>
    rw [cj_hom (hx'.pv hA) (hA _ hs) px]
    exact hcl _ (Gen.mul' pk (Gen.of pk ih) (Gen.of pk (of_decide_eq_true (hh _ hs))))
  exact mvd_eq (fun s hs => el_pv hA hm hs) px hm.asc.nodup hk (by omega) fun s hs => hgen s ((hm.mem s).1 hs)
section
variable {I:Oracle} (hNo:NoI I) {h:AHeap}
include hNo
theorem gcj1_spec {n : Nat} (hn : n <= 20) {b1 b2 im : Nat} {K A : List Pm} {vA vx : AV} {x : Pm} {d : Int} (l1 : loadV (some 2) (.ptr b1 0) h = some (.agg [.int .i64 d, vA])) (l2 : loadV none (.ptr b2 0) h = some (.map im)) (hg : h.get im = some (.map (kset K))) (him : im < h.next) (hx : PmAt h vx x) (px : PV n x) (hA : PmsAt h vA A) (pA : ∀ p ∈ A, PV n p) (hl : A.length <= 1000000) :
  ∃ h',lim otab.get I (.fn 163) [vx, .ptr b1 0, .ptr b2 0] h = some (.bool (A.all fun s => decide (cj s x ∈ K)),h') /\ Gro h h':=by
 refine (lim_walk_ex (T:=otab.get) (I:=I) (f:=163) (fn:=of163) rfl (a:=[vx, .ptr b1 0, .ptr b2 0]) (h:=h) (P:=fun v h' => v = .bool (A.all fun s => decide (cj s x ∈ K)) /\ Gro h h') (hNo.at _ _ (by decide) (by decide) (by decide)) ?_) |> fun ⟨v,h',e,q1,q2⟩ => ⟨h',by rw [e,q1],q2⟩
 show WK _ _ [] ⟨[vx, .ptr b1 0, .ptr b2 0,aundef],h⟩ _
 dsimp only [of163,Z.t,Z.f,Z.i,Z.q,Z.m,Z.l,Z.b,Z.c,Z.w]
 obtain ⟨h2,f2,g2⟩:=takes_spec hNo hn (d:=d) hg him hx px hA pA hl
 simp (disch:=omega) only [RSf.down,l1,l2,f2]
 exact ⟨(fun i hi => by cases hi),_,rfl,rfl,g2⟩
theorem gcj_range {n : Nat} (hn : n ≤ 20) {i6 i7 ib1 ib2 g : Nat} {x0 x1 x2 x3 x4 x5 x8 x9 x10 x11 x12 x13 x14 x15 x16 x17 x18 x19 x20 x21 x22 x23 x24 x25 x26 x27 x28 x29 x30 x31 x32 x33 x34 x35 x36 vl : AV} {caps TM : List AV} {A B : ACode} {l : List Pm} {f : Pm → Bool}
    (hT:TM = [x0,x1,x2,x3,x4,x5, .ptr i6 0, .ptr i7 0,x8,x9,x10,x11,x12,x13,x14,x15,x16,x17,x18,x19,x20,x21,x22,x23,x24,x25,x26,x27,x28,x29,x30,x31,x32,x33,x34,x35,x36])
    (hA:(ACode.ops [⟨some 11, .mov (.tmp 34),none⟩]) = A) (hB:(ACode.block 1 (.seq (.ops [⟨some 35, .mov (.tmp 11),none⟩,⟨some 36, .call (.lit (.fn (.func 152) [] [])) [.tmp 35],none⟩,⟨none, .store 1 (.tmp 6) (.tmp 36),none⟩,⟨none, .store 1 (.tmp 7) (.lit (.int .i64 0)),none⟩]) .ret)) = B)
    (h6:i6 < h.next) (h7:i7 < h.next) (hne:i6 ≠ i7) (r6:h.get i6 = some (.cells [.nils] true)) (r7:h.get i7 = some (.cells [.int .i64 0] true))
    (k1:ib1 < h.next) (k2:ib2 < h.next) (l1:loadV none (.ptr ib1 0) h = some vl) (l2:loadV none (.ptr ib2 0) h = some (.fn (.func g) [] caps))
    (hl:PmsAt h vl l) (pv:∀ x ∈ l,PV n x) (hL:l.length ≤ 5040)
    (hfit:∀ (hx:AHeap) (a:AV) (p:Pm),Gro h hx → p ∈ l → PmAt hx a p → ∃ hy,lim otab.get I (.fn g) (a :: caps) hx = some (.bool (f p),hy) ∧ Gro hx hy) :
    ∃ v h',lim otab.get I (.fn 213) [.fn (.yield h.next) [] [], .ptr ib1 0, .ptr ib2 0] (h.push (.loop 0 TM [34] A B 0 none)) = some (v,h') ∧
      ((Gro h h' ∧ h'.get h.next = some (.loop 0 TM [34] A B 0 none) ∧ l.find? f = none) ∨
       (h'.get h.next = some (.loop 0 TM [34] A B 2 (some .ret)) ∧ (∃ x vx,l.find? f = some x ∧ h'.get i6 = some (.cells [vx] true) ∧ h'.get i7 = some (.cells [.int .i64 0] true) ∧ PmAt h' vx x ∧ h.next < h'.next ∧ Chg (fun j => j = i6 ∨ j = i7) h h' ∧ (x ≠ [] → ∀ j,oid vx = some j → h.next < j)))):=by
  obtain ⟨cV,s1,s2,s3⟩:=hl
  have hrng:=filter1_spec hNo (h:=h.push (.loop 0 TM [34] A B 0 none)) (lp:=h.next) (ib1:=ib1) (ib2:=ib2) (g:=g) (vl:=vl) (caps:=caps) (cV:=cV)
    (J:=fun k hk => Gro h hk ∧ h.next < hk.next ∧ hk.get h.next = some (.loop 0 TM [34] A B 0 none) ∧ ∀ y ∈ l.take k,f y = false)
    (D:=fun h' => h'.get h.next = some (.loop 0 TM [34] A B 2 (some .ret)) ∧ (∃ x vx,l.find? f = some x ∧ h'.get i6 = some (.cells [vx] true) ∧ h'.get i7 = some (.cells [.int .i64 0] true) ∧ PmAt h' vx x ∧ h.next < h'.next ∧ Chg (fun j => j = i6 ∨ j = i7) h h' ∧ (x ≠ [] → ∀ j,oid vx = some j → h.next < j))) (by omega)
    ⟨Gro.push h _,Nat.lt_succ_self _,AHeap.get_push_same h _,fun y hy => by simp at hy⟩
    (fun k hk hJ => by
      obtain ⟨g0,_⟩:=hJ
      exact ⟨by rw [loadV_same (F:=fun _ => False) g0.chg k1 (fun hf => hf)]; exact l1,by rw [loadV_same (F:=fun _ => False) g0.chg k2 (fun hf => hf)]; exact l2,s1.gro g0⟩)
    (fun k hk z hz hJ => by
      obtain ⟨g0,x0',r0,hno⟩:=hJ
      have hkl:k < l.length:=by rw [← s2]; exact (List.getElem?_eq_some_iff.1 hz).1
      obtain ⟨p,hp⟩:=get_some hkl
      have hpm:=List.mem_of_getElem? hp
      have pz:=s3 k z p hz hp
      obtain ⟨hy,fy,gy⟩:=hfit hk z p g0 hpm (pz.gro g0)
      have gyy:=g0.trans gy
      have xy:h.next < hy.next:=by have:=gy.le; omega
      have rl:hy.get h.next = some (.loop 0 TM [34] A B 0 none):=by rw [gy.same _ x0']; exact r0
      refine ⟨_,hy,fy,fun hf => ?_,fun hf => ?_⟩
      · refine ⟨gyy,xy,rl,fun y hy' => ?_⟩
        rw [take_succ_get hp] at hy'
        rcases List.mem_append.1 hy' with hy' | hy'
        · exact hno y hy'
        · rw [List.mem_singleton.1 hy']; exact hf
      · have hfc:=find_at hp hno hf
        have gs:Gro h (hy.set h.next (.loop 0 TM [34] A B 1 none)):=gyy.set (Nat.le_refl _) _
        have rs:(hy.set h.next (.loop 0 TM [34] A B 1 none)).get h.next = some (.loop 0 TM [34] A B 1 none):=AHeap.get_set_same _ _ _
        have xs:h.next < (hy.set h.next (.loop 0 TM [34] A B 1 none)).next:=xy
        obtain ⟨vc,h8,f8,a8,g8,fr8⟩:=clone_fn (I:=I) (f:=152) rfl (fun _ _ => hNo.at _ _ (by decide) (by decide) (by decide)) (pz.gro gs) (by rw [(pv p hpm).len]; omega)
        have g08:=gs.trans g8
        have q6:h8.get i6 = some (.cells [.nils] true):=by rw [g08.same _ h6]; exact r6
        have q7:h8.get i7 = some (.cells [.int .i64 0] true):=by rw [g08.same _ h7]; exact r7
        have ql:h8.get h.next = some (.loop 0 TM [34] A B 1 none):=by rw [g8.same _ xs]; exact rs
        have e6:stV 1 (.ptr i6 0) vc h8 = some (aundef,h8.set i6 (.cells [vc] true)):=stV_at (k:=0) q6 (by simp) a8.scalar
        have q7':(h8.set i6 (.cells [vc] true)).get i7 = some (.cells [.int .i64 0] true):=by rw [AHeap.get_set_ne _ _ (Ne.symm hne)]; exact q7
        have e7:stV 1 (.ptr i7 0) (.int .i64 0) (h8.set i6 (.cells [vc] true)) = some (aundef,(h8.set i6 (.cells [vc] true)).set i7 (.cells [.int .i64 0] true)):=stV_at (k:=0) q7' (by simp) rfl
        have ql2:((h8.set i6 (.cells [vc] true)).set i7 (.cells [.int .i64 0] true)).get h.next = some (.loop 0 TM [34] A B 1 none):=by rw [AHeap.get_set_ne _ _ (by omega),AHeap.get_set_ne _ _ (by omega)]; exact ql
        have hw:=lim_yield_walk (T:=otab.get) (I:=I) rl (args:=[z]) rfl (Pst:=fun r h' => r = .bool false ∧ h' = ((h8.set i6 (.cells [vc] true)).set i7 (.cells [.int .i64 0] true)).set h.next (.loop 0 TM [34] A B 2 (some .ret))) (by
          subst hT
          subst hA
          subst hB
          show WK _ _ [] ⟨[x0,x1,x2,x3,x4,x5, .ptr i6 0, .ptr i7 0,x8,x9,x10,x11,x12,x13,x14,x15,x16,x17,x18,x19,x20,x21,x22,x23,x24,x25,x26,x27,x28,x29,x30,x31,x32,x33,z,x35,x36],hy⟩ _
          simp (disch:=omega) only [RSf.down]
          refine ⟨trivial,0,_, [34],_,_,none,rl,?_⟩
          simp (disch:=omega) only [RSf.down,f8,e6,e7]
          exact ⟨_,_,endRound_ret ql2,rfl,rfl⟩)
        obtain ⟨r,h',e,rfl,rfl⟩:=hw
        refine ⟨false,_,e,(fun e => by cases e),fun _ => ⟨AHeap.get_set_same _ _ _,p,vc,hfc,?_,?_,?_,?_,?_,?_⟩⟩
        · rw [AHeap.get_set_ne _ _ (by omega),AHeap.get_set_ne _ _ hne,AHeap.get_set_same]
        · rw [AHeap.get_set_ne _ _ (by omega),AHeap.get_set_same]
        · have c1 : Chg (fun j => j = i6 ∨ j = i7 ∨ j = h.next) h8 (((h8.set i6 (.cells [vc] true)).set i7 (.cells [.int .i64 0] true)).set h.next (.loop 0 TM [34] A B 2 (some .ret))) :=
            ((Chg.set (F:=fun j => j = i6 ∨ j = i7 ∨ j = h.next) h8 (.inl rfl) _).trans (Chg.set (F:=fun j => j = i6 ∨ j = i7 ∨ j = h.next) _ (.inr (.inl rfl)) _) fun _ _ hj => hj).trans (Chg.set (F:=fun j => j = i6 ∨ j = i7 ∨ j = h.next) _ (.inr (.inr rfl)) _) fun _ _ hj => hj
          by_cases hp0:p = []
          · subst hp0; exact a8.nil_any c1.le
          · refine a8.chg c1 fun j hj e => ?_
            obtain ⟨i,cap,e1,e2⟩:=fr8 hp0
            rw [e1] at hj; cases hj; have:=gs.le; omega
        · show h.next < h8.next
          have:=g8.le; omega
        · exact ⟨by show h.next ≤ h8.next; have := g8.le; omega, fun j hj hF => by
            rw [AHeap.get_set_ne _ _ (by omega),AHeap.get_set_ne _ _ (fun e => hF (.inr e)),AHeap.get_set_ne _ _ (fun e => hF (.inl e)),g08.same _ hj]⟩
        · intro hp0 j hj
          obtain ⟨i,cap,e1,e2⟩:=fr8 hp0
          rw [e1] at hj; cases hj; exact Nat.lt_of_lt_of_le xs e2)
  obtain ⟨v,h',e,hJ⟩:=hrng
  refine ⟨v,h',e,?_⟩
  rcases hJ with ⟨g0,x0',r0,hno⟩ | hD
  · rw [s2,List.take_length] at hno
    exact .inl ⟨g0,r0,List.find?_eq_none.2 fun y hy => by rw [hno y hy]; decide⟩
  · exact .inr hD
theorem gcj_step {K : List Fr} {Q : AX -> St -> Prop} {n : Nat} (hn : n <= 20) {i6 i7 ib1 ib2 g : Nat} {x0 x1 x2 x3 x4 x5 x8 x9 x10 x11 x12 x13 x14 x15 x16 x17 x18 x19 x20 x21 x22 x23 x24 x25 x26 x27 x28 x29 x30 x31 x32 x34 x35 x36 vl : AV} {caps : List AV} {l : List Pm} {f : Pm -> Bool}
  (h6:i6 < h.next) (h7:i7 < h.next) (hne:i6 ≠ i7) (r6:h.get i6 = some (.cells [.nils] true)) (r7:h.get i7 = some (.cells [.int .i64 0] true))
  (k1:ib1 < h.next) (k2:ib2 < h.next) (l1:loadV none (.ptr ib1 0) h = some vl) (l2:loadV none (.ptr ib2 0) h = some (.fn (.func g) [] caps))
  (hl:PmsAt h vl l) (pv:∀ x ∈ l,PV n x) (hL:l.length <= 5040)
  (hfit:∀ (hx:AHeap) (a:AV) (p:Pm),Gro h hx -> p ∈ l -> PmAt hx a p -> ∃ hy,lim otab.get I (.fn g) (a :: caps) hx = some (.bool (f p),hy) /\ Gro hx hy)
  (c1:∀ h',Gro h h' -> l.find? f = none -> WX (lim otab.get I) .normal K ⟨[x0,x1,x2,x3,x4,x5, .ptr i6 0, .ptr i7 0,x8,x9,x10,x11,x12,x13,x14,x15,x16,x17,x18,x19,x20,x21,x22,x23,x24,x25,x26,x27,x28,x29,x30,x31,x32, .fn (.func 213) [] [.ptr ib1 0, .ptr ib2 0],x34,x35,x36],h'⟩ Q)
  (c2:∀ h' x vx,l.find? f = some x -> h'.get i6 = some (.cells [vx] true) -> h'.get i7 = some (.cells [.int .i64 0] true) -> PmAt h' vx x -> Chg (fun j => j = i6 \/ j = i7) h h' -> WX (lim otab.get I) .ret K ⟨[x0,x1,x2,x3,x4,x5, .ptr i6 0, .ptr i7 0,x8,x9,x10,x11,x12,x13,x14,x15,x16,x17,x18,x19,x20,x21,x22,x23,x24,x25,x26,x27,x28,x29,x30,x31,x32, .fn (.func 213) [] [.ptr ib1 0, .ptr ib2 0],x34,x35,x36],h'⟩ Q) :
  WK (lim otab.get I) (.rangeFunc (.tmp 33) [34] (.ops [⟨some 11, .mov (.tmp 34),none⟩]) (.block 1 (.seq (.ops [⟨some 35, .mov (.tmp 11),none⟩,⟨some 36, .call (.lit (.fn (.func 152) [] [])) [.tmp 35],none⟩,⟨none, .store 1 (.tmp 6) (.tmp 36),none⟩,⟨none, .store 1 (.tmp 7) (.lit (.int .i64 0)),none⟩]) .ret))) K ⟨[x0,x1,x2,x3,x4,x5, .ptr i6 0, .ptr i7 0,x8,x9,x10,x11,x12,x13,x14,x15,x16,x17,x18,x19,x20,x21,x22,x23,x24,x25,x26,x27,x28,x29,x30,x31,x32, .fn (.func 213) [] [.ptr ib1 0, .ptr ib2 0],x34,x35,x36],h⟩ Q:=by
 obtain ⟨v,h',e,r⟩:=gcj_range hNo hn (x0:=x0) (x1:=x1) (x2:=x2) (x3:=x3) (x4:=x4) (x5:=x5) (x8:=x8) (x9:=x9) (x10:=x10) (x11:=x11) (x12:=x12) (x13:=x13) (x14:=x14) (x15:=x15) (x16:=x16) (x17:=x17) (x18:=x18) (x19:=x19) (x20:=x20) (x21:=x21) (x22:=x22) (x23:=x23) (x24:=x24) (x25:=x25) (x26:=x26) (x27:=x27) (x28:=x28) (x29:=x29) (x30:=x30) (x31:=x31) (x32:=x32) (x34:=x34) (x35:=x35) (x36:=x36) (x33 := .fn (.func 213) [] [.ptr ib1 0, .ptr ib2 0]) rfl rfl rfl h6 h7 hne r6 r7 k1 k2 l1 l2 hl pv hL hfit
 rcases r with ⟨g,rl,hf⟩ | ⟨rl,x,vx,hf,q6,q7,px,hx,ch,fr⟩
 ·exact WK_range (f := .tmp 33) (g:=213) (first:=[]) (cap:=[.ptr ib1 0, .ptr ib2 0]) rfl e (endRange_all rl) (c1 _ (g.set (Nat.le_refl _) _) hf)
 ·refine WK_range (f := .tmp 33) (g:=213) (first:=[]) (cap:=[.ptr ib1 0, .ptr ib2 0]) rfl e (endRange_ret rl) (c2 _ x vx hf ?_ ?_ ?_ ?_)
  ·rw [AHeap.get_set_ne _ _ (by omega)]; exact q6
  ·rw [AHeap.get_set_ne _ _ (by omega)]; exact q7
  ·have cs:∀ o,Chg (fun j => j = h.next) h' (h'.set h.next o):=fun o => Chg.set (F:=fun j => j = h.next) h' rfl _
   by_cases hx0:x = []
   ·subst hx0; exact px.nil_any (Nat.le_refl _)
   ·exact px.chg (cs _) fun j hj e => by have:=fr hx0 j hj; omega
  ·exact ch.trans (Chg.set (F:=fun j => j = h.next) h' rfl _) fun j hj e => by omega
end
end Go.AM
namespace Go.AM
open Go Go.GT
def jE3 (d:Int) (ls:List (List Int)) (d2:Int) (ls2:List (List Int)) (d3:Int) (ls3:List (List Int)):Int :=
 if groupErr d ls ≠ 0 then groupErr d ls else if groupErr d2 ls2 ≠ 0 then groupErr d2 ls2 else if groupErr d3 ls3 ≠ 0 then groupErr d3 ls3 else if d2 ≠ d \/ d3 ≠ d then 2 else 0
theorem chk_three {d d2 d3:Int} {vg vg2 vg3:AV} {ls ls2 ls3:List (List Int)}:chkE [(d,vg,ls),(d2,vg2,ls2),(d3,vg3,ls3)] [] = jE3 d ls d2 ls2 d3 ls3:=by
 have e1:firstE (gE [(d,vg,ls),(d2,vg2,ls2),(d3,vg3,ls3)]) 3 = if (if groupErr d ls ≠ 0 then groupErr d ls else groupErr d2 ls2) ≠ 0 then (if groupErr d ls ≠ 0 then groupErr d ls else groupErr d2 ls2) else groupErr d3 ls3:=rfl
 have e0:dgE [(d,vg,ls),(d2,vg2,ls2),(d3,vg3,ls3)] 0 = 0:=by unfold dgE; exact if_neg fun h => h rfl
 have e2:firstE (dgE [(d,vg,ls),(d2,vg2,ls2),(d3,vg3,ls3)]) 3 = if (if d2 ≠ d then (2:Int) else 0) ≠ 0 then (if d2 ≠ d then (2:Int) else 0) else (if d3 ≠ d then 2 else 0):=by
  show (if (if dgE [(d,vg,ls),(d2,vg2,ls2),(d3,vg3,ls3)] 0 ≠ 0 then dgE [(d,vg,ls),(d2,vg2,ls2),(d3,vg3,ls3)] 0 else dgE [(d,vg,ls),(d2,vg2,ls2),(d3,vg3,ls3)] 1) ≠ 0 then (if dgE [(d,vg,ls),(d2,vg2,ls2),(d3,vg3,ls3)] 0 ≠ 0 then dgE [(d,vg,ls),(d2,vg2,ls2),(d3,vg3,ls3)] 0 else dgE [(d,vg,ls),(d2,vg2,ls2),(d3,vg3,ls3)] 1) else dgE [(d,vg,ls),(d2,vg2,ls2),(d3,vg3,ls3)] 2) = _
  rw [if_neg (show ¬ dgE [(d,vg,ls),(d2,vg2,ls2),(d3,vg3,ls3)] 0 ≠ 0 from fun h => h e0)]; rfl
 unfold chkE jE3
 rw [show [(d,vg,ls),(d2,vg2,ls2),(d3,vg3,ls3)].length = 3 from rfl,e1,e2]
 generalize groupErr d ls = a
 generalize groupErr d2 ls2 = b
 generalize groupErr d3 ls3 = c
 by_cases c1:a = 0 <;> by_cases c2:b = 0 <;> by_cases c3:c = 0 <;> by_cases c4:d2 = d <;> by_cases c5:d3 = d <;> simp [c1,c2,c3,c4,c5,firstE]
theorem jE3_zero {d d2 d3:Int} {ls ls2 ls3:List (List Int)} (e0:jE3 d ls d2 ls2 d3 ls3 = 0):groupErr d ls = 0 /\ groupErr d2 ls2 = 0 /\ groupErr d3 ls3 = 0 /\ d2 = d /\ d3 = d:=by
 unfold jE3 at e0
 generalize groupErr d ls = a at e0 ⊢
 generalize groupErr d2 ls2 = b at e0 ⊢
 generalize groupErr d3 ls3 = c at e0 ⊢
 by_cases c1:a = 0
 ·by_cases c2:b = 0
  ·by_cases c3:c = 0
   ·by_cases c4:d2 = d
    ·by_cases c5:d3 = d
     ·exact ⟨c1,c2,c3,c4,c5⟩
     ·simp [c1,c2,c3,c4,c5] at e0
    ·simp [c1,c2,c3,c4] at e0
   ·simp [c1,c2,c3] at e0
  ·simp [c1,c2] at e0
 ·simp [c1] at e0
theorem gs_three {h:AHeap} {d d2 d3:Int} {vg vg2 vg3:AV} {ls ls2 ls3:List (List Int)} (hg:LsAt h vg ls) (hg2:LsAt h vg2 ls2) (hg3:LsAt h vg3 ls3):GsAt (h.push (.cells [.int .i64 d,vg, .int .i64 d2,vg2, .int .i64 d3,vg3] true)) (.slice h.next 0 3 (.exact 3)) [(d,vg,ls),(d2,vg2,ls2),(d3,vg3,ls3)] :=
 ⟨⟨h.next,rfl,Nat.lt_succ_self _,AHeap.get_push_same _ _⟩,fun g hm => by
  rcases List.mem_cons.1 hm with rfl | hm
  ·exact ⟨hg.gro (Gro.push h _),hg.sc⟩
  ·rcases List.mem_cons.1 hm with rfl | hm
   ·exact ⟨hg2.gro (Gro.push h _),hg2.sc⟩
   ·obtain rfl:=List.mem_singleton.1 hm
    exact ⟨hg3.gro (Gro.push h _),hg3.sc⟩⟩
theorem ev_bs3 {d d2 d3:Int} {vg vg2 vg3:AV} {k m p:Nat} {h:AHeap} (tm:List AV) (e:nth tm k = .agg [.int .i64 d,vg]) (e2:nth tm m = .agg [.int .i64 d2,vg2]) (e3:nth tm p = .agg [.int .i64 d3,vg3]):evalA (.bslice 3 2 [.int .i64 0, .nils, .int .i64 0, .nils, .int .i64 0, .nils] [(0, .tmp k),(1, .tmp m),(2, .tmp p)]) tm h = some (.cells [.int .i64 d,vg, .int .i64 d2,vg2, .int .i64 d3,vg3] true, .slice h.next 0 3 (.exact 3)):=by
 simp only [evalA,fillsS,ev_tmp,e,e2,e3]; rfl
section
variable {I:Oracle} (hS:Srt I) {h:AHeap}
include hS
theorem gGcj_spec {vg vg2 vg3 : AV} {ls ls2 ls3 : List (List Int)} (hg : LsAt h vg ls) (hg2 : LsAt h vg2 ls2) (hg3 : LsAt h vg3 ls3) (d d2 d3 : Int) (he : HasEl d ls) (he2 : HasEl d2 ls2) (he3 : HasEl d3 ls3) :
  ∃ (v:AV) (w:Int) (h':AHeap),lim otab.get I (.fn 87) [.agg [.int .i64 d,vg], .agg [.int .i64 d2,vg2], .agg [.int .i64 d3,vg3]] h = some (.tup [v, .int .i64 w],h') /\ Gro h h' /\
   (jE3 d ls d2 ls2 d3 ls3 ≠ 0 -> v = .nils /\ w = jE3 d ls d2 ls2 d3 ls3) /\
   (jE3 d ls d2 ls2 d3 ls3 = 0 -> ∀ l,IsEl d.toNat (gS ls) l -> l.length <= 5040 -> ∀ m,IsEl d.toNat (gS ls2) m -> m.length <= 5040 -> ∀ k,IsEl d.toNat (gS ls3) k -> k.length <= 5040 ->
    (∃ x,gcj l m k = some x /\ PmAt h' v x /\ w = 0) \/ (gcj l m k = none /\ v = .nils /\ w = 10)):=by
 have hNo:=hS.no
 refine (lim_walk_ex (T := otab.get) (I := I) (f := 87) (fn := of87) rfl (a := [.agg [.int .i64 d, vg], .agg [.int .i64 d2, vg2], .agg [.int .i64 d3, vg3]]) (h := h) (P := fun a h' => ∃ v w, a = .tup [v, .int .i64 w] /\ Gro h h' /\
   (jE3 d ls d2 ls2 d3 ls3 ≠ 0 -> v = .nils /\ w = jE3 d ls d2 ls2 d3 ls3) /\
   (jE3 d ls d2 ls2 d3 ls3 = 0 -> ∀ l,IsEl d.toNat (gS ls) l -> l.length <= 5040 -> ∀ m,IsEl d.toNat (gS ls2) m -> m.length <= 5040 -> ∀ k,IsEl d.toNat (gS ls3) k -> k.length <= 5040 ->
    (∃ x,gcj l m k = some x /\ PmAt h' v x /\ w = 0) \/ (gcj l m k = none /\ v = .nils /\ w = 10))) (hNo.at _ _ (by decide) (by decide) (by decide)) ?_) |> fun ⟨a,h',e,v,w,q1,q2⟩ => ⟨v,w,h',by rw [e,q1],q2⟩
 show WK _ _ [] ⟨[.agg [.int .i64 d,vg], .agg [.int .i64 d2,vg2], .agg [.int .i64 d3,vg3],aundef,aundef,aundef,aundef,aundef,aundef,aundef,aundef,aundef,aundef,aundef,aundef,aundef,aundef,aundef,aundef,aundef,aundef,aundef,aundef,aundef,aundef,aundef,aundef,aundef,aundef,aundef,aundef,aundef,aundef,aundef,aundef,aundef,aundef],h⟩ _
 dsimp only [of87,af87,Z.t,Z.q,Z.l,Z.m,Z.b,Z.c,Z.f,Z.i]
 have y1:=Gro.push h (.cells [.int .i64 d,vg] true)
 have y2:=Gro.push (h.push (.cells [.int .i64 d,vg] true)) (.cells [.int .i64 d2,vg2] true)
 have y3:=Gro.push ((h.push (.cells [.int .i64 d,vg] true)).push (.cells [.int .i64 d2,vg2] true)) (.cells [.int .i64 d3,vg3] true)
 have y4:=Gro.push (((h.push (.cells [.int .i64 d,vg] true)).push (.cells [.int .i64 d2,vg2] true)).push (.cells [.int .i64 d3,vg3] true)) (.cells [.nils] true)
 have y5:=Gro.push ((((h.push (.cells [.int .i64 d,vg] true)).push (.cells [.int .i64 d2,vg2] true)).push (.cells [.int .i64 d3,vg3] true)).push (.cells [.nils] true)) (.cells [.int .i64 0] true)
 have x1:(h.push (.cells [.int .i64 d,vg] true)).next = h.next + 1:=rfl
 have x2:((h.push (.cells [.int .i64 d,vg] true)).push (.cells [.int .i64 d2,vg2] true)).next = h.next + 2:=rfl
 have x3:(((h.push (.cells [.int .i64 d,vg] true)).push (.cells [.int .i64 d2,vg2] true)).push (.cells [.int .i64 d3,vg3] true)).next = h.next + 3:=rfl
 have x4:((((h.push (.cells [.int .i64 d,vg] true)).push (.cells [.int .i64 d2,vg2] true)).push (.cells [.int .i64 d3,vg3] true)).push (.cells [.nils] true)).next = h.next + 4:=rfl
 have x5:(((((h.push (.cells [.int .i64 d,vg] true)).push (.cells [.int .i64 d2,vg2] true)).push (.cells [.int .i64 d3,vg3] true)).push (.cells [.nils] true)).push (.cells [.int .i64 0] true)).next = h.next + 5:=rfl
 have ba:=fun {h'} (g:Gro _ h') => box_all (h:=h) (c:=[.int .i64 d,vg]) (r:=true) (h':=h') (y2.trans (y3.trans (y4.trans (y5.trans g)))) (n:=2) rfl
 have bb:=fun {h'} (g:Gro _ h') => box_all (h:=h.push (.cells [.int .i64 d,vg] true)) (c:=[.int .i64 d2,vg2]) (r:=true) (h':=h') (y3.trans (y4.trans (y5.trans g))) (n:=2) rfl
 have bc:=fun {h'} (g:Gro _ h') => box_all (h:=(h.push (.cells [.int .i64 d,vg] true)).push (.cells [.int .i64 d2,vg2] true)) (c:=[.int .i64 d3,vg3]) (r:=true) (h':=h') (y4.trans (y5.trans g)) (n:=2) rfl
 have r6:=AHeap.get_push_same (((h.push (.cells [.int .i64 d,vg] true)).push (.cells [.int .i64 d2,vg2] true)).push (.cells [.int .i64 d3,vg3] true)) (.cells [.nils] true)
 have r7:=AHeap.get_push_same ((((h.push (.cells [.int .i64 d,vg] true)).push (.cells [.int .i64 d2,vg2] true)).push (.cells [.int .i64 d3,vg3] true)).push (.cells [.nils] true)) (.cells [.int .i64 0] true)
 rw [x3] at r6
 rw [x4] at r7
 rw [x1] at bb
 rw [x2] at bc
 have r6':(((((h.push (.cells [.int .i64 d,vg] true)).push (.cells [.int .i64 d2,vg2] true)).push (.cells [.int .i64 d3,vg3] true)).push (.cells [.nils] true)).push (.cells [.int .i64 0] true)).get (h.next + 3) = some (.cells [.nils] true):=by rw [AHeap.get_push_lt _ _ (by omega)]; exact r6
 have g1:=y1.trans (y2.trans (y3.trans (y4.trans y5)))
 have b1:=ba (Gro.refl _)
 have b2:=bb (Gro.refl _)
 have b3:=bc (Gro.refl _)
 simp (disch:=omega) only [RSf.down,b1,b2,b3,x1,x2,x3,x4]
 generalize ((((h.push (.cells [.int .i64 d,vg] true)).push (.cells [.int .i64 d2,vg2] true)).push (.cells [.int .i64 d3,vg3] true)).push (.cells [.nils] true)).push (.cells [.int .i64 0] true) = h1 at g1 ba bb bc b1 b2 b3 r6' r7 x5 ⊢
 rw [ev_bs3 _ rfl rfl rfl]
 have G1:=gs_three (d:=d) (d2:=d2) (d3:=d3) (hg.gro g1) (hg2.gro g1) (hg3.gro g1)
 have g2:=Gro.push h1 (.cells [.int .i64 d,vg, .int .i64 d2,vg2, .int .i64 d3,vg3] true)
 simp (disch:=omega) only [RSf.down]
 generalize h1.push (.cells [.int .i64 d,vg, .int .i64 d2,vg2, .int .i64 d3,vg3] true) = h2 at G1 g2 ⊢
 obtain ⟨h4,f4,g4⟩:=jcheck_spec hNo G1 ls_nil (show 0 < 3 by decide) (show 3 <= 1000 by decide) (by decide) (fun g hm => by
  rcases List.mem_cons.1 hm with rfl | hm
  ·exact he
  ·rcases List.mem_cons.1 hm with rfl | hm
   ·exact he2
   ·obtain rfl:=List.mem_singleton.1 hm; exact he3)
 rw [chk_three] at f4
 have g24:=g2.trans g4
 have q6:∀ {h'},Gro h1 h' -> h'.get (h.next + 3) = some (.cells [.nils] true):=fun g => by rw [g.same _ (by omega)]; exact r6'
 have q7:∀ {h'},Gro h1 h' -> h'.get (h.next + 4) = some (.cells [.int .i64 0] true):=fun g => by rw [g.same _ (by omega)]; exact r7
 have out : ∀ {h'} (g : Gro h1 h') (w : Int), stV 1 (.ptr (h.next + 3) 0) .nils h' = some (aundef, h'.set (h.next + 3) (.cells [.nils] true)) /\ stV 1 (.ptr (h.next + 4) 0) (.int .i64 w) (h'.set (h.next + 3) (.cells [.nils] true)) = some (aundef, (h'.set (h.next + 3) (.cells [.nils] true)).set (h.next + 4) (.cells [.int .i64 w] true)) /\
   loadV none (.ptr (h.next + 3) 0) ((h'.set (h.next + 3) (.cells [.nils] true)).set (h.next + 4) (.cells [.int .i64 w] true)) = some .nils /\ loadV none (.ptr (h.next + 4) 0) ((h'.set (h.next + 3) (.cells [.nils] true)).set (h.next + 4) (.cells [.int .i64 w] true)) = some (.int .i64 w) /\ Gro h ((h'.set (h.next + 3) (.cells [.nils] true)).set (h.next + 4) (.cells [.int .i64 w] true)):=fun {h'} g w => by
  refine ⟨stV_at (k:=0) (q6 g) (by simp) rfl,?_,loadV_get (by rw [AHeap.get_set_ne _ _ (by omega),AHeap.get_set_same]) rfl,loadV_get (AHeap.get_set_same _ _ _) rfl,((g1.trans g).set (by omega) _).set (by omega) _⟩
  have w7':(h'.set (h.next + 3) (.cells [.nils] true)).get (h.next + 4) = some (.cells [.int .i64 0] true):=by rw [AHeap.get_set_ne _ _ (by omega)]; exact q7 g
  exact stV_at (k:=0) w7' (by simp) rfl
 by_cases e0:jE3 d ls d2 ls2 d3 ls3 = 0
 ·rw [e0] at f4
  obtain ⟨hc,hc2,hc3,hd2,hd3⟩:=jE3_zero e0
  subst hd2; subst hd3
  obtain ⟨l,hel,hl⟩:=he hc
  obtain ⟨m,helm,hlm⟩:=he2 hc2
  obtain ⟨k,helk,hlk⟩:=he3 hc3
  have gg:=g1.trans g24
  obtain ⟨n,rfl,hn,_,_,hSv⟩:=group_of_ok hc
  obtain ⟨n2,e2,_,hl2,_,hSv2⟩:=group_of_ok hc2
  obtain rfl:n = n2:=by omega
  obtain ⟨n3,e3,_,_,_,hSv3⟩:=group_of_ok hc3
  obtain rfl:n = n3:=by omega
  rw [Int.toNat_natCast] at hel helm helk
  have b4:=bc g24
  obtain ⟨v5,c5,h5,f5,p5,g5,fr5⟩:=jelements_spec hNo hS (hg3.gro gg) hc3 (by rw [Int.toNat_natCast]; exact helk) hlk
  obtain ⟨K,h6,f6,m6,i6,g6,hK⟩:=setOf_spec hNo p5.pms (fun x hx => el_pv hSv3 helk hx) hn (by omega)
  have g7:=Gro.push h6 (.cells [.nilm] true)
  have e8:stV 1 (.ptr h6.next 0) (.map h5.next) (h6.push (.cells [.nilm] true)) = some (aundef,(h6.push (.cells [.nilm] true)).set h6.next (.cells [.map h5.next] true)):=stV_at (k:=0) (AHeap.get_push_same h6 _) (by simp) rfl
  have g8:Gro h6 ((h6.push (.cells [.nilm] true)).set h6.next (.cells [.map h5.next] true)):=g7.set (Nat.le_refl _) _
  have r8:((h6.push (.cells [.nilm] true)).set h6.next (.cells [.map h5.next] true)).get h6.next = some (.cells [.map h5.next] true):=AHeap.get_set_same _ _ _
  have x8:((h6.push (.cells [.nilm] true)).set h6.next (.cells [.map h5.next] true)).next = h6.next + 1:=rfl
  simp (disch:=omega) only [RSf.down,f4,neqF,b4,f5,f6,e8]
  generalize (h6.push (.cells [.nilm] true)).set h6.next (.cells [.map h5.next] true) = h8 at g8 r8 x8 e8 ⊢
  have g58:=g5.trans (g6.trans g8)
  have k8:=g24.trans g58
  have b8:=bb k8
  obtain ⟨v9,c9,h9,f9,p9,g9,fr9⟩:=jelements_spec hNo hS (hg2.gro (g1.trans k8)) hc2 (by rw [Int.toNat_natCast]; exact helm) hlm
  have p5l:∀ {h':AHeap},lenV 1 v5 h' = some (.int .i64 (k.length:Int)):=fun {h'} => p5.pms.len
  have p9l:∀ {h':AHeap},lenV 1 v9 h' = some (.int .i64 (m.length:Int)):=fun {h'} => p9.pms.len
  have k9:=k8.trans g9
  have uq:∀ {l' m' k':List Pm},IsEl ((n:Int).toNat) (gS ls) l' -> IsEl ((n:Int).toNat) (gS ls2) m' -> IsEl ((n:Int).toNat) (gS ls3) k' -> l' = l /\ m' = m /\ k' = k:=fun a1 a2 a3 => by
   rw [Int.toNat_natCast] at a1 a2 a3
   exact ⟨a1.unique hel,a2.unique helm,a3.unique helk⟩
  by_cases hmk:m.length = k.length
  ·have hb:=ba k9
   obtain ⟨vB,cB,hB,fB,pB,gB,frB⟩:=jelements_spec hNo hS (hg.gro (g1.trans k9)) hc (by rw [Int.toNat_natCast]; exact hel) hl
   have eC:=filter_spec hNo (h:=hB) (va:=vB) (vf := .fn (.func 163) [] [.ptr (h.next + 1) 0, .ptr h6.next 0]) pB.own.at.scalar rfl
   have gC:Gro hB ((hB.push (.cells [vB] true)).push (.cells [.fn (.func 163) [] [.ptr (h.next + 1) 0, .ptr h6.next 0]] true)):=(Gro.push hB _).trans (Gro.push _ _)
   have l1:loadV none (.ptr hB.next 0) ((hB.push (.cells [vB] true)).push (.cells [.fn (.func 163) [] [.ptr (h.next + 1) 0, .ptr h6.next 0]] true)) = some vB:=box_ld (Gro.push _ _) rfl
   have l2:loadV none (.ptr (hB.next + 1) 0) ((hB.push (.cells [vB] true)).push (.cells [.fn (.func 163) [] [.ptr (h.next + 1) 0, .ptr h6.next 0]] true)) = some (.fn (.func 163) [] [.ptr (h.next + 1) 0, .ptr h6.next 0]):=box_ld (h:=hB.push (.cells [vB] true)) (Gro.refl _) rfl
   have xC:((hB.push (.cells [vB] true)).push (.cells [.fn (.func 163) [] [.ptr (h.next + 1) 0, .ptr h6.next 0]] true)).next = hB.next + 2:=rfl
   have hmk':(m.length:Int) = (k.length:Int):=by omega
   simp (disch:=omega) only [RSf.down,b8,f9,p5l,p9l,neqF,hb,fB,eC]
   generalize (hB.push (.cells [vB] true)).push (.cells [.fn (.func 163) [] [.ptr (h.next + 1) 0, .ptr h6.next 0]] true) = hC at eC gC l1 l2 xC ⊢
   have gBC:=gB.trans gC
   have kC:=k9.trans gBC
   have le1:=k8.le
   have le2:=g9.le
   have le3:=gB.le
   have le0:=g24.le
   have hgc:=gcj_eq (A:=gS ls2) (fun x hx => el_pv hSv hel hx) hSv2 helm helk.asc (fun p hp => (helk.mem p).2 (Gen.mono hSv3 (fun s hs => (helk.mem s).1 hs) hp)) (fun s hs => el_pv hSv3 helk hs) hmk
   have hff:l.find? (fun x => (gS ls2).all fun s => decide (cj s x ∈ K)) = gcj l m k:=by
    rw [hgc]
    refine find_congr' fun x _ => ?_
    congr 1; funext s
    exact decide_eq_decide.2 (hK _)
   refine gcj_step hNo hn (g:=163) (i6:=h.next + 3) (i7:=h.next + 4) (ib1:=hB.next) (ib2:=hB.next + 1) (l:=l) (f:=fun x => (gS ls2).all fun s => decide (cj s x ∈ K)) (by omega) (by omega) (by omega) (q6 kC) (q7 kC) (by omega) (by omega) l1 l2 (pB.pms.gro gC) (fun x hx => el_pv hSv hel hx) hl (fun hx a p g hp ha => ?_) ?_ ?_
   ·have G0:=kC.trans g
    refine gcj1_spec hNo hn (d:=(n:Int)) (im:=h5.next) (bb G0) ?_ (by rw [((g8.trans (g9.trans gBC)).trans g).same _ i6]; exact m6) (Nat.lt_of_lt_of_le i6 ((g8.trans (g9.trans gBC)).trans g).le) ha (el_pv hSv hel hp) ((hg2.pmsS hc2).gro (g1.trans G0)) hSv2 (by unfold gS; rw [List.length_map]; omega)
    exact loadV_get (by rw [((g9.trans gBC).trans g).same _ (by omega)]; exact r8) rfl
   ·intro h' g' hf
    obtain ⟨w1,w2,w3,w4,w5⟩:=out (kC.trans g') 10
    simp (disch:=omega) only [RSf.down,w1,w2]
    refine ⟨(fun i hi => by cases hi), .tup [.nils, .int .i64 10],result_cc rfl w3 rfl w4,_,_,rfl,w5,fun h => absurd e0 h,fun _ l' hl' _ m' hm' _ k' hk' _ => .inr ⟨?_,rfl,rfl⟩⟩
    obtain ⟨rfl,rfl,rfl⟩:=uq hl' hm' hk'
    rw [<- hff]; exact hf
   ·intro h' x vx hf z6 z7 px ch
    simp (disch:=omega) only [RSf.down]
    refine ⟨(fun i hi => by cases hi), .tup [vx, .int .i64 0],result_cc rfl (loadV_get z6 rfl) rfl (loadV_get z7 rfl),_,_,rfl,(g1.trans kC).chg_new ch fun j hj => by omega,fun h => absurd e0 h,fun _ l' hl' _ m' hm' _ k' hk' _ => .inl ⟨x,?_,px,rfl⟩⟩
    obtain ⟨rfl,rfl,rfl⟩:=uq hl' hm' hk'
    rw [<- hff]; exact hf
  ·have hmk':(m.length:Int) ≠ (k.length:Int):=by omega
   obtain ⟨w1,w2,w3,w4,w5⟩:=out k9 10
   simp (disch:=omega) only [RSf.down,b8,f9,p5l,p9l,neqT hmk',w1,w2]
   refine ⟨(fun i hi => by cases hi), .tup [.nils, .int .i64 10],result_cc rfl w3 rfl w4,_,_,rfl,w5,fun h => absurd e0 h,fun _ l' hl' _ m' hm' _ k' hk' _ => .inr ⟨?_,rfl,rfl⟩⟩
   obtain ⟨rfl,rfl,rfl⟩:=uq hl' hm' hk'
   unfold gcj
   refine List.find?_eq_none.2 fun x hx => ?_
   rw [decide_eq_true_iff]
   intro e
   have:=mvd_len (fun s hs => el_pv hSv2 helm hs) (el_pv hSv hel hx) helm.asc.nodup
   rw [e] at this
   exact hmk this.symm
 ·obtain ⟨w1,w2,w3,w4,w5⟩:=out g24 (jE3 d ls d2 ls2 d3 ls3)
  simp (disch:=omega) only [RSf.down,f4,neqT e0,w1,w2]
  exact ⟨(fun i hi => by cases hi), .tup [.nils, .int .i64 (jE3 d ls d2 ls2 d3 ls3)],result_cc rfl w3 rfl w4,_,_,rfl,w5,fun _ => ⟨rfl,rfl⟩,fun h => absurd h e0⟩
end
end Go.AM
namespace Go.AM
open Go Go.GT
theorem cut_pair:∀ {c:List AV} {k:Nat} {x y:AV},c[k]? = some x -> c[k + 1]? = some y -> cut c k 2 = some [x,y]
 | [],_,_,_,h,_ => by simp at h
 | [_],0,_,_,_,h => by simp at h
 | a :: b :: c,0,x,y,h1,h2 => by
  simp at h1 h2; subst h1; subst h2
  rw [cut_cons,cut_cons,cut_zero]
 | a :: c,k + 1,x,y,h1,h2 => by
  rw [cut_succ]; exact cut_pair (by simpa using h1) (by simpa using h2)
theorem GrsAt.get {h : AHeap} {lo : Nat} {v : AV} {n : Nat} {R : List (List Pm)} (s : GrsAt h lo v n R) {i : Nat} {r : List Pm} (hi : R[i]? = some r) :
  ∃ p a ca,iaddrV 2 v (.int .i64 (i:Int)) = some p /\ (∀ h',Gro h h' -> loadV (some 2) p h' = some (.agg [.int .i64 (n:Int),a])) /\ PL h a ca r:=by
 obtain ⟨c,o,e⟩:=s.ex
 obtain ⟨a,ca,a1,a2,a3,_⟩:=e i r hi
 have hil:=(List.getElem?_eq_some_iff.1 hi).1
 rcases o with ⟨_,e0,_⟩ | ⟨j,cap,rfl,_,_,hj,hg⟩
 ·rw [e0] at hil; exact absurd hil (Nat.not_lt_zero _)
 ·refine ⟨.ptr j (i * 2),a,ca,?_,fun h' g => ?_,a3⟩
  ·have:=iaddrV_ok (sz:=2) (j:=j) (o:=0) (c:=cap) (k := .i64) hil
   rwa [Nat.zero_add] at this
  ·show (match cellsOf h' j with | some c => fit (some 2) (i * 2) c | none => none) = _
   rw [cellsOf_get (by rw [g.same _ hj]; exact hg)]
   show (match cut c (i * 2) 2 with | some r => some (AV.agg r) | none => none) = _
   rw [cut_pair a1 a2]
end Go.AM
namespace Go.AM
open Go Go.GT
section
variable {I:Oracle} (hNo:NoI I) {h:AHeap}
include hNo
theorem two_spec {va vb:AV} {la lb:List (List Int)} (ha:LsAt h va la) (hb:LsAt h vb lb) {d:Int} (ca:groupErr d la = 0) (cb:groupErr d lb = 0):∃ h',lim otab.get I (.fn 176) [.agg [.int .i64 d,va], .agg [.int .i64 d,vb]] h = some (.int .i64 0,h') /\ Gro h h':=by
 have g2:Gro h ((h.push (.cells [.int .i64 d,va] true)).push (.cells [.int .i64 d,vb] true)):=(Gro.push h _).trans (Gro.push _ _)
 have r0:((h.push (.cells [.int .i64 d,va] true)).push (.cells [.int .i64 d,vb] true)).get h.next = some (.cells [.int .i64 d,va] true):=by
  rw [AHeap.get_push_lt _ _ (show h.next < h.next + 1 by omega),AHeap.get_push_same]
 have r1:((h.push (.cells [.int .i64 d,va] true)).push (.cells [.int .i64 d,vb] true)).get (h.next + 1) = some (.cells [.int .i64 d,vb] true):=AHeap.get_push_same (h.push _) _
 have x2:((h.push (.cells [.int .i64 d,va] true)).push (.cells [.int .i64 d,vb] true)).next = h.next + 2:=rfl
 refine (lim_walk_ex (T:=otab.get) (I:=I) (f:=176) (fn:=of176) rfl (a:=[.agg [.int .i64 d,va], .agg [.int .i64 d,vb]]) (h:=h) (P:=fun a h' => a = .int .i64 0 /\ Gro h h') (hNo.at _ _ (by decide) (by decide) (by decide)) ?_) |> fun ⟨a,h',e,q1,q2⟩ => ⟨h',by rw [e,q1],q2⟩
 show WK _ _ [] ⟨[.agg [.int .i64 d,va], .agg [.int .i64 d,vb],aundef,aundef],h⟩ _
 dsimp only [of176,Z.t,Z.f,Z.i,Z.q,Z.m,Z.l,Z.b,Z.c,Z.w]
 simp (disch:=omega) only [RSf.down,AHeap.next_push]
 generalize ((h.push (.cells [.int .i64 d,va] true)).push (.cells [.int .i64 d,vb] true)) = h2 at g2 r0 r1 x2 ⊢
 have b0:loadV (some 2) (.ptr h.next 0) h2 = some (.agg [.int .i64 d,va]):=loadV_two r0
 obtain ⟨h3,f3,g3⟩:=gcheck hNo (ha.gro g2) d
 rw [ca] at f3
 have r13:h3.get (h.next + 1) = some (.cells [.int .i64 d,vb] true):=by rw [g3.same _ (by omega)]; exact r1
 have b1:loadV (some 2) (.ptr (h.next + 1) 0) h3 = some (.agg [.int .i64 d,vb]):=loadV_two r13
 obtain ⟨h4,f4,g4⟩:=gcheck hNo (hb.gro (g2.trans g3)) d
 rw [cb] at f4
 have c0:loadV none (.ptr h.next 0) h4 = some (.int .i64 d):=loadV_get (by rw [(g3.trans g4).same _ (by omega)]; exact r0) rfl
 have c1:loadV none (.ptr (h.next + 1) 0) h4 = some (.int .i64 d):=loadV_get (by rw [g4.same _ (by have:=g3.le; omega)]; exact r13) rfl
 have e0:bin .eql .no (.int .i64 0) (.int .i64 0) = some (.bool true):=rfl
 have en:bin .neq .no (.int .i64 d) (.int .i64 d) = some (.bool false):=neqF rfl
 simp (disch:=omega) only [RSf.down,b0,f3,e0,b1,f4,c0,c1,en]
 exact ⟨(fun i hi => by cases hi),_,rfl,rfl,g2.trans (g3.trans g4)⟩
theorem sub1_spec {n : Nat} {G0 A : List Pm} {lab : Nat -> Nat} {ic : Nat} {ids : Nat -> Nat} {c : List Lv} (C : Chain n G0 A lab h ic ids c) (hn : n <= 20) {ib : Nat} (hb : loadV none (.ptr ib 0) h = some (.ptr ic 0)) {v : AV} {p : Pm} (hv : PmAt h v p) (hp : PV n p) (hG : Gen n A p) :
  ∃ h',lim otab.get I (.fn 223) [v, .ptr ib 0] h = some (.bool false,h') /\ Gro h h':=by
 obtain ⟨b,h3,f3,g3,hi⟩:=ccontains_spec hNo C hn hv hp
 obtain rfl:=hi.2 hG
 refine (lim_walk_ex (T:=otab.get) (I:=I) (f:=223) (fn:=of223) rfl (a:=[v, .ptr ib 0]) (h:=h) (P:=fun a h' => a = .bool false /\ Gro h h') (hNo.at _ _ (by decide) (by decide) (by decide)) ?_) |> fun ⟨a,h',e,q1,q2⟩ => ⟨h',by rw [e,q1],q2⟩
 show WK _ _ [] ⟨[v, .ptr ib 0,aundef],h⟩ _
 dsimp only [of223,Z.t,Z.f,Z.i,Z.q,Z.m,Z.l,Z.b,Z.c,Z.w]
 simp (disch:=omega) only [RSf.down,hb,f3,not_bool,Bool.not_true]
 exact ⟨(fun i hi => by cases hi),_,rfl,rfl,g3⟩
theorem subs_none {n : Nat} {G0 A : List Pm} {lab : Nat -> Nat} {ic : Nat} {ids : Nat -> Nat} {c : List Lv} (C : Chain n G0 A lab h ic ids c) (hn : n <= 20) {ib : Nat} (hib : ib < h.next) (hb : loadV none (.ptr ib 0) h = some (.ptr ic 0)) {vS : AV} {S : List Pm} (hS : PmsAt h vS S) (hp : ∀ s ∈ S, PV n s) (hG : ∀ s ∈ S, Gen n A s) (hl : S.length <= 1000000) :
  ∃ h',lim otab.get I (.fn 206) [vS, .fn (.func 223) [] [.ptr ib 0]] h = some (.bool false,h') /\ Gro h h':=by
 have key:∃ h',lim otab.get I (.fn 234) [vS, .fn (.func 223) [] [.ptr ib 0]] h = some (.int .i64 (-1),h') /\ Gro h h':=by
  refine (lim_walk_ex (T:=otab.get) (I:=I) (f:=234) (fn:=of234) rfl (a:=[vS, .fn (.func 223) [] [.ptr ib 0]]) (h:=h) (P:=fun v h' => v = .int .i64 (-1) /\ Gro h h') (hNo.at _ _ (by decide) (by decide) (by decide)) ?_) |> fun ⟨v,h',e,q1,q2⟩ => ⟨h',by rw [e,q1],q2⟩
  show WK _ _ [] ⟨[vS, .fn (.func 223) [] [.ptr ib 0],aundef,aundef,aundef],h⟩ _
  dsimp only [of234,Z.t,Z.f,Z.i,Z.q,Z.m,Z.l,Z.b,Z.c,Z.w]
  simp (disch:=omega) only [RSe.down,hS.len]
  refine WK_loopJ (fun k s => k <= S.length /\ ∃ y3 h',s = ⟨[vS, .fn (.func 223) [] [.ptr ib 0], .int .i64 (k:Int),y3, .int .i64 (S.length:Int)],h'⟩ /\ Gro h h') S.length ⟨Nat.zero_le _,_,h,rfl,Gro.refl _⟩ ?_
  rintro k hk _ ⟨_,y3,h',rfl,g⟩ next
  by_cases hkn:k < S.length
  ·obtain ⟨p,hpk⟩:=get_some hkn
   obtain ⟨i1,a,i2,i3⟩:=(PmsAt.gro' hS g).get hpk
   have hm:=List.mem_of_getElem? hpk
   have hb':loadV none (.ptr ib 0) h' = some (.ptr ic 0):=by rw [loadV_same (F:=fun _ => False) g.chg hib (fun hf => hf)]; exact hb
   obtain ⟨h3,f,g3⟩:=sub1_spec hNo (C.gro g) hn hb' i3 (hp p hm) (hG p hm)
   have f':lim otab.get I (.fn 223) ([] ++ [a] ++ [.ptr ib 0]) h' = some (.bool false,h3):=f
   have ec:∀ tm:List AV,nth tm 1 = .fn (.func 223) [] [.ptr ib 0] -> nth tm 3 = a -> evalE (.call (.tmp 1) [.tmp 3]) (lim otab.get I) tm h' = some (.bool false,h3):=fun tm t1 t3 => by
    rw [evalE_callV (g:=223) (fs:=[]) (cs:=[.ptr ib 0]) (show ev tm (.tmp 1) = _ by rw [ev_tmp]; exact t1)]
    have:evs tm [.tmp 3] = [a]:=by show [ev tm (.tmp 3)] = _; rw [ev_tmp,t3]
    rw [this]; exact f'
   simp (disch:=omega) only [RSe.down,lssT,i1,i2]
   rw [ec _ rfl rfl]
   simp (disch:=omega) only [RSe.down,add1N]
   exact next hkn _ ⟨by omega,_,h3,rfl,g.trans g3⟩
  ·obtain rfl:k = S.length:=by omega
   simp (disch:=omega) only [RSe.down,lssF]
   exact ⟨(fun i hi => by cases hi),_,rfl,rfl,g⟩
 obtain ⟨h2,f2,g2⟩:=key
 refine (lim_walk_ex (T:=otab.get) (I:=I) (f:=206) (fn:=of206) rfl (a:=[vS, .fn (.func 223) [] [.ptr ib 0]]) (h:=h) (P:=fun v h' => v = .bool false /\ Gro h h') (hNo.at _ _ (by decide) (by decide) (by decide)) ?_) |> fun ⟨v,h',e,q1,q2⟩ => ⟨h',by rw [e,q1],q2⟩
 show WK _ _ [] ⟨[vS, .fn (.func 223) [] [.ptr ib 0],aundef],h⟩ _
 dsimp only [of206,Z.t,Z.f,Z.i,Z.q,Z.m,Z.l,Z.b,Z.c,Z.w]
 simp (disch:=omega) only [RSe.down,f2,geqF]
 exact ⟨(fun i hi => by cases hi),_,rfl,rfl,g2⟩
theorem isub_spec {n : Nat} (hn : n <= 20) {va vb : AV} {A B : List Pm} (ha : PmsAt h va A) (hb : PmsAt h vb B) (la : LsAt h va (A.map zs)) (lb : LsAt h vb (B.map zs)) (hA : ∀ s ∈ A, PV n s) (hB : ∀ s ∈ B, PV n s) (hlA : A.length <= 32) (hlB : B.length <= 32) (hBd : Bnd n B 5040) (hG : ∀ s ∈ A, Gen n B s) :
  ∃ h',lim otab.get I (.fn 95) [.agg [.int .i64 (n:Int),va], .agg [.int .i64 (n:Int),vb]] h = some (.tup [.bool true, .int .i64 0],h') /\ Gro h h':=by
 have hsub:∀ {h:AHeap},PmsAt h va A -> PmsAt h vb B -> ∃ h',lim otab.get I (.fn 177) [.agg [.int .i64 (n:Int),va], .agg [.int .i64 (n:Int),vb]] h = some (.bool true,h') /\ Gro h h':=fun {h} ha hb => by
  have g2:Gro h ((h.push (.cells [.int .i64 (n:Int),va] true)).push (.cells [.int .i64 (n:Int),vb] true)):=(Gro.push h _).trans (Gro.push _ _)
  have r0:((h.push (.cells [.int .i64 (n:Int),va] true)).push (.cells [.int .i64 (n:Int),vb] true)).get h.next = some (.cells [.int .i64 (n:Int),va] true):=by
   rw [AHeap.get_push_lt _ _ (show h.next < h.next + 1 by omega),AHeap.get_push_same]
  have b1:loadV (some 2) (.ptr (h.next + 1) 0) ((h.push (.cells [.int .i64 (n:Int),va] true)).push (.cells [.int .i64 (n:Int),vb] true)) = some (.agg [.int .i64 (n:Int),vb]):=loadV_two (AHeap.get_push_same (h.push _) _)
  have x2:((h.push (.cells [.int .i64 (n:Int),va] true)).push (.cells [.int .i64 (n:Int),vb] true)).next = h.next + 2:=rfl
  refine (lim_walk_ex (T:=otab.get) (I:=I) (f:=177) (fn:=of177) rfl (a:=[.agg [.int .i64 (n:Int),va], .agg [.int .i64 (n:Int),vb]]) (h:=h) (P:=fun a h' => a = .bool true /\ Gro h h') (hNo.at _ _ (by decide) (by decide) (by decide)) ?_) |> fun ⟨a,h',e,q1,q2⟩ => ⟨h',by rw [e,q1],q2⟩
  show WK _ _ [] ⟨[.agg [.int .i64 (n:Int),va], .agg [.int .i64 (n:Int),vb],aundef],h⟩ _
  dsimp only [of177,Z.t,Z.f,Z.i,Z.q,Z.m,Z.l,Z.b,Z.c,Z.w]
  simp (disch:=omega) only [RSf.down,AHeap.next_push]
  generalize ((h.push (.cells [.int .i64 (n:Int),va] true)).push (.cells [.int .i64 (n:Int),vb] true)) = h2 at g2 r0 b1 x2 ⊢
  obtain ⟨ic,h3,lab,ids,c,f3,C,g3,hic⟩:=chain_spec hNo hn (PmsAt.gro' hb g2) hB (by omega) hBd
  have e4:stV 1 (.ptr h3.next 0) (.ptr ic 0) (h3.push (.cells [.nilp] true)) = some (aundef,(h3.push (.cells [.nilp] true)).set h3.next (.cells [.ptr ic 0] true)):=stV_at (k:=0) (AHeap.get_push_same _ _) (by simp) rfl
  have g4:Gro h3 ((h3.push (.cells [.nilp] true)).set h3.next (.cells [.ptr ic 0] true)):=(Gro.push h3 _).set (Nat.le_refl _) _
  have p4:((h3.push (.cells [.nilp] true)).set h3.next (.cells [.ptr ic 0] true)).get h3.next = some (.cells [.ptr ic 0] true):=AHeap.get_set_same _ _ _
  have x4:h3.next < ((h3.push (.cells [.nilp] true)).set h3.next (.cells [.ptr ic 0] true)).next:=Nat.lt_succ_self _
  simp (disch:=omega) only [RSf.down,b1,f3,e4]
  generalize ((h3.push (.cells [.nilp] true)).set h3.next (.cells [.ptr ic 0] true)) = h4 at g4 p4 x4 ⊢
  have l4:loadV none (.ptr h3.next 0) h4 = some (.ptr ic 0):=loadV_get p4 rfl
  have l1:loadV none (.ptr h.next 1) h4 = some va:=loadV_get (by rw [(g3.trans g4).same _ (by omega)]; exact r0) rfl
  obtain ⟨h5,f5,g5⟩:=subs_none hNo (C.gro g4) hn x4 l4 (PmsAt.gro' ha (g2.trans (g3.trans g4))) hA hG (by omega)
  simp (disch:=omega) only [RSf.down,l1,f5,not_bool,Bool.not_false]
  exact ⟨(fun i hi => by cases hi),_,rfl,rfl,g2.trans (g3.trans (g4.trans g5))⟩
 have g2:Gro h ((h.push (.cells [.int .i64 (n:Int),va] true)).push (.cells [.int .i64 (n:Int),vb] true)):=(Gro.push h _).trans (Gro.push _ _)
 have r0:((h.push (.cells [.int .i64 (n:Int),va] true)).push (.cells [.int .i64 (n:Int),vb] true)).get h.next = some (.cells [.int .i64 (n:Int),va] true):=by
  rw [AHeap.get_push_lt _ _ (show h.next < h.next + 1 by omega),AHeap.get_push_same]
 have r1:((h.push (.cells [.int .i64 (n:Int),va] true)).push (.cells [.int .i64 (n:Int),vb] true)).get (h.next + 1) = some (.cells [.int .i64 (n:Int),vb] true):=AHeap.get_push_same (h.push _) _
 have x2:((h.push (.cells [.int .i64 (n:Int),va] true)).push (.cells [.int .i64 (n:Int),vb] true)).next = h.next + 2:=rfl
 refine (lim_walk_ex (T:=otab.get) (I:=I) (f:=95) (fn:=of95) rfl (a:=[.agg [.int .i64 (n:Int),va], .agg [.int .i64 (n:Int),vb]]) (h:=h) (P:=fun a h' => a = .tup [.bool true, .int .i64 0] /\ Gro h h') (hNo.at _ _ (by decide) (by decide) (by decide)) ?_) |> fun ⟨a,h',e,q1,q2⟩ => ⟨h',by rw [e,q1],q2⟩
 show WK _ _ [] ⟨[.agg [.int .i64 (n:Int),va], .agg [.int .i64 (n:Int),vb],aundef,aundef],h⟩ _
 dsimp only [of95,Z.t,Z.f,Z.i,Z.q,Z.m,Z.l,Z.b,Z.c,Z.w]
 simp (disch:=omega) only [RSf.down,AHeap.next_push]
 generalize ((h.push (.cells [.int .i64 (n:Int),va] true)).push (.cells [.int .i64 (n:Int),vb] true)) = h2 at g2 r0 r1 x2 ⊢
 have lda:∀ {h'},Gro h2 h' -> loadV (some 2) (.ptr h.next 0) h' = some (.agg [.int .i64 (n:Int),va]):=fun g => loadV_two (by rw [g.same _ (by omega)]; exact r0)
 have ldb:∀ {h'},Gro h2 h' -> loadV (some 2) (.ptr (h.next + 1) 0) h' = some (.agg [.int .i64 (n:Int),vb]):=fun g => loadV_two (by rw [g.same _ (by omega)]; exact r1)
 obtain ⟨h3,f3,g3⟩:=two_spec hNo (la.gro g2) (lb.gro g2) (err_zero hn hlA hA) (err_zero hn hlB hB)
 obtain ⟨h4,f4,g4⟩:=hsub (PmsAt.gro' ha (g2.trans g3)) (PmsAt.gro' hb (g2.trans g3))
 have a0:=lda (Gro.refl _)
 have b0:=ldb (Gro.refl _)
 have a3:=lda g3
 have b3:=ldb g3
 simp (disch:=omega) only [RSf.down,a0,b0,f3,neqF,a3,b3,f4]
 exact ⟨(fun i hi => by cases hi),_,rfl,rfl,g2.trans (g3.trans g4)⟩
end
end Go.AM
namespace Go.AM
open Go Go.GT
theorem gen_map_cj {n:Nat} {A:List Pm} {x t:Pm} (hA:∀ s ∈ A,PV n s) (px:PV n x) (h:Gen n A t):Gen n (A.map fun s => cj s x) (cj t x):=by
 induction h with
 | one => rw [one_cj px]; exact .one
 | mul hx hs ih =>
  rw [cj_hom (hx.pv hA) (hA _ hs) px]
  exact .mul ih (List.mem_map.2 ⟨_,hs,rfl⟩)
section
variable {I:Oracle} (hNo:NoI I) {h:AHeap}
include hNo
theorem psub_spec {n : Nat} (hn : n <= 20) {va vb : AV} {A B : List Pm} (ha : PmsAt h va A) (hb : PmsAt h vb B) (hA : ∀ s ∈ A, PV n s) (hB : ∀ s ∈ B, PV n s) (hlA : A.length <= 32) (hlB : B.length <= 32) (hBd : Bnd n B 5040) (hG : ∀ s ∈ A, Gen n B s) :
  ∃ h',lim otab.get I (.fn 177) [.agg [.int .i64 (n:Int),va], .agg [.int .i64 (n:Int),vb]] h = some (.bool true,h') /\ Gro h h':=by
 have g2:Gro h ((h.push (.cells [.int .i64 (n:Int),va] true)).push (.cells [.int .i64 (n:Int),vb] true)):=(Gro.push h _).trans (Gro.push _ _)
 have r0:((h.push (.cells [.int .i64 (n:Int),va] true)).push (.cells [.int .i64 (n:Int),vb] true)).get h.next = some (.cells [.int .i64 (n:Int),va] true):=by
  rw [AHeap.get_push_lt _ _ (show h.next < h.next + 1 by omega),AHeap.get_push_same]
 have b1:loadV (some 2) (.ptr (h.next + 1) 0) ((h.push (.cells [.int .i64 (n:Int),va] true)).push (.cells [.int .i64 (n:Int),vb] true)) = some (.agg [.int .i64 (n:Int),vb]):=loadV_two (AHeap.get_push_same (h.push _) _)
 have x2:((h.push (.cells [.int .i64 (n:Int),va] true)).push (.cells [.int .i64 (n:Int),vb] true)).next = h.next + 2:=rfl
 refine (lim_walk_ex (T:=otab.get) (I:=I) (f:=177) (fn:=of177) rfl (a:=[.agg [.int .i64 (n:Int),va], .agg [.int .i64 (n:Int),vb]]) (h:=h) (P:=fun a h' => a = .bool true /\ Gro h h') (hNo.at _ _ (by decide) (by decide) (by decide)) ?_) |> fun ⟨a,h',e,q1,q2⟩ => ⟨h',by rw [e,q1],q2⟩
 show WK _ _ [] ⟨[.agg [.int .i64 (n:Int),va], .agg [.int .i64 (n:Int),vb],aundef],h⟩ _
 dsimp only [of177,Z.t,Z.f,Z.i,Z.q,Z.m,Z.l,Z.b,Z.c,Z.w]
 simp (disch:=omega) only [RSf.down,AHeap.next_push]
 generalize ((h.push (.cells [.int .i64 (n:Int),va] true)).push (.cells [.int .i64 (n:Int),vb] true)) = h2 at g2 r0 b1 x2 ⊢
 obtain ⟨ic,h3,lab,ids,c,f3,C,g3,hic⟩:=chain_spec hNo hn (PmsAt.gro' hb g2) hB (by omega) hBd
 have e4:stV 1 (.ptr h3.next 0) (.ptr ic 0) (h3.push (.cells [.nilp] true)) = some (aundef,(h3.push (.cells [.nilp] true)).set h3.next (.cells [.ptr ic 0] true)):=stV_at (k:=0) (AHeap.get_push_same _ _) (by simp) rfl
 have g4:Gro h3 ((h3.push (.cells [.nilp] true)).set h3.next (.cells [.ptr ic 0] true)):=(Gro.push h3 _).set (Nat.le_refl _) _
 have p4:((h3.push (.cells [.nilp] true)).set h3.next (.cells [.ptr ic 0] true)).get h3.next = some (.cells [.ptr ic 0] true):=AHeap.get_set_same _ _ _
 have x4:h3.next < ((h3.push (.cells [.nilp] true)).set h3.next (.cells [.ptr ic 0] true)).next:=Nat.lt_succ_self _
 simp (disch:=omega) only [RSf.down,b1,f3,e4]
 generalize ((h3.push (.cells [.nilp] true)).set h3.next (.cells [.ptr ic 0] true)) = h4 at g4 p4 x4 ⊢
 have l4:loadV none (.ptr h3.next 0) h4 = some (.ptr ic 0):=loadV_get p4 rfl
 have l1:loadV none (.ptr h.next 1) h4 = some va:=loadV_get (by rw [(g3.trans g4).same _ (by omega)]; exact r0) rfl
 obtain ⟨h5,f5,g5⟩:=subs_none hNo (C.gro g4) hn x4 l4 (PmsAt.gro' ha (g2.trans (g3.trans g4))) hA hG (by omega)
 simp (disch:=omega) only [RSf.down,l1,f5,not_bool,Bool.not_false]
 exact ⟨(fun i hi => by cases hi),_,rfl,rfl,g2.trans (g3.trans (g4.trans g5))⟩
theorem psame_spec {n : Nat} (hn : n <= 20) {va vb : AV} {A B : List Pm} (ha : PmsAt h va A) (hb : PmsAt h vb B) (la : LsAt h va (A.map zs)) (lb : LsAt h vb (B.map zs)) (hA : ∀ s ∈ A, PV n s) (hB : ∀ s ∈ B, PV n s) (hlA : A.length <= 32) (hlB : B.length <= 32) (hAd : Bnd n A 5040) (hBd : Bnd n B 5040) (hG : ∀ s ∈ A, Gen n B s) (hG2 : ∀ s ∈ B, Gen n A s) :
  ∃ h',lim otab.get I (.fn 97) [.agg [.int .i64 (n:Int),va], .agg [.int .i64 (n:Int),vb]] h = some (.tup [.bool true, .int .i64 0],h') /\ Gro h h':=by
 have g2:Gro h ((h.push (.cells [.int .i64 (n:Int),va] true)).push (.cells [.int .i64 (n:Int),vb] true)):=(Gro.push h _).trans (Gro.push _ _)
 have r0:((h.push (.cells [.int .i64 (n:Int),va] true)).push (.cells [.int .i64 (n:Int),vb] true)).get h.next = some (.cells [.int .i64 (n:Int),va] true):=by
  rw [AHeap.get_push_lt _ _ (show h.next < h.next + 1 by omega),AHeap.get_push_same]
 have r1:((h.push (.cells [.int .i64 (n:Int),va] true)).push (.cells [.int .i64 (n:Int),vb] true)).get (h.next + 1) = some (.cells [.int .i64 (n:Int),vb] true):=AHeap.get_push_same (h.push _) _
 have x2:((h.push (.cells [.int .i64 (n:Int),va] true)).push (.cells [.int .i64 (n:Int),vb] true)).next = h.next + 2:=rfl
 refine (lim_walk_ex (T:=otab.get) (I:=I) (f:=97) (fn:=of97) rfl (a:=[.agg [.int .i64 (n:Int),va], .agg [.int .i64 (n:Int),vb]]) (h:=h) (P:=fun a h' => a = .tup [.bool true, .int .i64 0] /\ Gro h h') (hNo.at _ _ (by decide) (by decide) (by decide)) ?_) |> fun ⟨a,h',e,q1,q2⟩ => ⟨h',by rw [e,q1],q2⟩
 show WK _ _ [] ⟨[.agg [.int .i64 (n:Int),va], .agg [.int .i64 (n:Int),vb],aundef,aundef],h⟩ _
 dsimp only [of97,Z.t,Z.f,Z.i,Z.q,Z.m,Z.l,Z.b,Z.c,Z.w]
 simp (disch:=omega) only [RSf.down,AHeap.next_push]
 generalize ((h.push (.cells [.int .i64 (n:Int),va] true)).push (.cells [.int .i64 (n:Int),vb] true)) = h2 at g2 r0 r1 x2 ⊢
 have lda:∀ {h'},Gro h2 h' -> loadV (some 2) (.ptr h.next 0) h' = some (.agg [.int .i64 (n:Int),va]):=fun g => loadV_two (by rw [g.same _ (by omega)]; exact r0)
 have ldb:∀ {h'},Gro h2 h' -> loadV (some 2) (.ptr (h.next + 1) 0) h' = some (.agg [.int .i64 (n:Int),vb]):=fun g => loadV_two (by rw [g.same _ (by omega)]; exact r1)
 obtain ⟨h3,f3,g3⟩:=two_spec hNo (la.gro g2) (lb.gro g2) (err_zero hn hlA hA) (err_zero hn hlB hB)
 obtain ⟨h4,f4,g4⟩:=psub_spec hNo hn (PmsAt.gro' ha (g2.trans g3)) (PmsAt.gro' hb (g2.trans g3)) hA hB hlA hlB hBd hG
 obtain ⟨h5,f5,g5⟩:=psub_spec hNo hn (PmsAt.gro' hb (g2.trans (g3.trans g4))) (PmsAt.gro' ha (g2.trans (g3.trans g4))) hB hA hlB hlA hAd hG2
 have a0:=lda (Gro.refl _)
 have b0:=ldb (Gro.refl _)
 have a3:=lda g3
 have b3:=ldb g3
 have a4:=lda (g3.trans g4)
 have b4:=ldb (g3.trans g4)
 simp (disch:=omega) only [RSf.down,a0,b0,f3,neqF,a3,b3,f4,a4,b4,f5]
 exact ⟨(fun i hi => by cases hi),_,rfl,rfl,g2.trans (g3.trans (g4.trans g5))⟩
theorem pconj_spec {n : Nat} (hn : n <= 20) {vA vx : AV} {A : List Pm} {x : Pm} (ha : PmsAt h vA A) (la : LsAt h vA (A.map zs)) (hA : ∀ s ∈ A, PV n s) (hlA : A.length <= 32) (hx : PmAt h vx x) (px : PV n x) :
  ∃ v c h',lim otab.get I (.fn 96) [.agg [.int .i64 (n:Int),vA],vx] h = some (.tup [.agg [.int .i64 (n:Int),v], .int .i64 0],h') /\ PL h' v c (A.map fun s => cj s x) /\ Gro h h' /\ (∀ j,oid v = some j -> h.next <= j) /\ ∀ a ∈ c, ∀ j,oid a = some j -> h.next <= j:=by
 refine (lim_walk_ex (T:=otab.get) (I:=I) (f:=96) (fn:=of96) rfl (a:=[.agg [.int .i64 (n:Int),vA],vx]) (h:=h) (P:=fun r h' => ∃ v c,r = .tup [.agg [.int .i64 (n:Int),v], .int .i64 0] /\ PL h' v c (A.map fun s => cj s x) /\ Gro h h' /\ (∀ j,oid v = some j -> h.next <= j) /\ ∀ a ∈ c, ∀ j,oid a = some j -> h.next <= j) (hNo.at _ _ (by decide) (by decide) (by decide)) ?_) |> fun ⟨r,h',e,v,c,q1,q2⟩ => ⟨v,c,h',by rw [e,q1],q2⟩
 show WK _ _ [] ⟨[.agg [.int .i64 (n:Int),vA],vx,aundef,aundef,aundef,aundef,aundef,aundef,aundef],h⟩ _
 dsimp only [of96,Z.t,Z.f,Z.i,Z.q,Z.m,Z.l,Z.b,Z.c,Z.w]
 have ga:=Gro.push h (.cells [.int .i64 (n:Int),vA] true)
 have gb:=Gro.push (h.push (.cells [.int .i64 (n:Int),vA] true)) (.cells [.int .i64 0, .nils] true)
 have xa:(h.push (.cells [.int .i64 (n:Int),vA] true)).next = h.next + 1:=rfl
 have xb:((h.push (.cells [.int .i64 (n:Int),vA] true)).push (.cells [.int .i64 0, .nils] true)).next = h.next + 2:=rfl
 have r8:=AHeap.get_push_same (h.push (.cells [.int .i64 (n:Int),vA] true)) (.cells [.int .i64 0, .nils] true)
 rw [xa] at r8
 have ba:=fun {h'} (g:Gro _ h') => box_all (h:=h) (c:=[.int .i64 (n:Int),vA]) (r:=true) (h':=h') (gb.trans g) (n:=2) rfl
 have bl0:=fun {h'} (g:Gro _ h') => box_ld (h:=h) (c:=[.int .i64 (n:Int),vA]) (r:=true) (h':=h') (gb.trans g) (o:=0) rfl
 have bl1:=fun {h'} (g:Gro _ h') => box_ld (h:=h) (c:=[.int .i64 (n:Int),vA]) (r:=true) (h':=h') (gb.trans g) (o:=1) rfl
 have b1:=ba (Gro.refl _)
 have g1:=ga.trans gb
 simp (disch:=omega) only [RSf.down,b1,xa,xb]
 generalize (h.push (.cells [.int .i64 (n:Int),vA] true)).push (.cells [.int .i64 0, .nils] true) = h1 at g1 ba bl0 bl1 b1 xb r8 ⊢
 have hvi:IAt h vx (zs x):=hx.ints
 have hpe:genErr (n:Int) (zs x) = 0:=gen_zs px hn
 obtain ⟨h2,f2,g2⟩:=with_spec hNo (la.gro g1) (err_zero hn hlA hA) (SlAt.gro hvi g1:IAt _ vx (zs x)) hpe
 have c0:=bl0 g2
 have g3:Gro h2 ((h2.push (.cells [.int .i64 0, .nils] true)).set h2.next (.cells [.int .i64 (n:Int), .nils] true)):=(Gro.push h2 _).set (Nat.le_refl _) _
 have e3:stV 2 (.ptr h2.next 0) (.agg [.int .i64 (n:Int), .nils]) (h2.push (.cells [.int .i64 0, .nils] true)) = some (aundef,(h2.push (.cells [.int .i64 0, .nils] true)).set h2.next (.cells [.int .i64 (n:Int), .nils] true)):=stV_two (AHeap.get_push_same h2 _) rfl rfl
 have r3:((h2.push (.cells [.int .i64 0, .nils] true)).set h2.next (.cells [.int .i64 (n:Int), .nils] true)).get h2.next = some (.cells [.int .i64 (n:Int), .nils] true):=AHeap.get_set_same _ _ _
 have x3:((h2.push (.cells [.int .i64 0, .nils] true)).set h2.next (.cells [.int .i64 (n:Int), .nils] true)).next = h2.next + 1:=rfl
 simp (disch:=omega) only [RSf.down,f2,neqF,c0]
 rw [bldC (show ev _ (.tmp 2) = .int .i64 (n:Int) from rfl)]
 simp (disch:=omega) only [RSf.down,e3]
 generalize (h2.push (.cells [.int .i64 0, .nils] true)).set h2.next (.cells [.int .i64 (n:Int), .nils] true) = h3 at e3 g3 r3 x3 ⊢
 have g13:=g2.trans g3
 have c1:=bl1 g13
 have le2:=g2.le
 have hlen:∀ {h':AHeap},lenV 1 vA h' = some (.int .i64 (A.length:Int)):=fun {h'} => ha.len
 have r83:h3.get (h.next + 1) = some (.cells [.int .i64 0, .nils] true):=by rw [g13.same _ (by omega)]; exact r8
 simp (disch:=omega) only [RSf.down,c1,hlen]
 refine WK_loopJ (fun k s => k <= A.length /\ ∃ y3 y4 y5 v c h',s = ⟨[.int .i64 (k:Int),vx, .ptr h2.next 0,y3,y4,y5,vA, .int .i64 (A.length:Int), .ptr (h.next + 1) 0],h'⟩ /\ Gro h h' /\ h2.next < h'.next /\ h'.get h2.next = some (.cells [.int .i64 (n:Int),v] true) /\ h'.get (h.next + 1) = some (.cells [.int .i64 0, .nils] true) /\ PL h' v c ((A.take k).map fun s => cj s x) /\ (∀ j,oid v = some j -> h2.next < j) /\ ∀ a ∈ c, ∀ j,oid a = some j -> h2.next < j) A.length
  ⟨Nat.zero_le _,_,_,_, .nils, [],h3,rfl,g1.trans g13,by omega,r3,r83,PL.nil,(fun j hj => by cases hj),(fun a ha => by cases ha)⟩ ?_
 rintro k hk _ ⟨_,y3,y4,y5,v,c,h',rfl,g,lt,rb,r8',P,fr,fc⟩ next
 by_cases hkl:k < A.length
 ·obtain ⟨s,hs⟩:=get_some hkl
  have hsv:=hA s (List.mem_of_getElem? hs)
  obtain ⟨i1,a,i2,i3⟩:=(PmsAt.gro' ha g).get hs
  have l0:loadV none (.ptr h2.next 1) h' = some v:=loadV_get rb rfl
  obtain ⟨v4,h4,f4,n4⟩:=inv_fn (I:=I) (f:=179) rfl (fun _ _ => hNo.at _ _ (by decide) (by decide) (by decide)) (hx.gro g) px (by omega)
  obtain ⟨v5,h5,f5,n5⟩:=mul_fn (I:=I) (f:=178) rfl (fun _ _ => hNo.at _ _ (by decide) (by decide) (by decide)) n4.at_ (i3.gro n4.gro) px.inv hsv (by omega)
  obtain ⟨v6,h6,f6,n6⟩:=mul_fn (I:=I) (f:=178) rfl (fun _ _ => hNo.at _ _ (by decide) (by decide) (by decide)) n5.at_ (hx.gro (g.trans (n4.gro.trans n5.gro))) (px.inv.mul hsv) px (by omega)
  have q4:=n4.gro
  have q5:=q4.trans n5.gro
  have q6:=q5.trans n6.gro
  have l4:loadV none (.ptr h2.next 1) h4 = some v:=loadV_get (by rw [q4.same _ lt]; exact rb) rfl
  have l5:loadV none (.ptr h2.next 1) h5 = some v:=loadV_get (by rw [q5.same _ lt]; exact rb) rfl
  have l6:loadV none (.ptr h2.next 1) h6 = some v:=loadV_get (by rw [q6.same _ lt]; exact rb) rfl
  have hle:((A.take k).map fun s => cj s x).length <= 1000000:=by rw [List.length_map,List.length_take]; omega
  obtain ⟨k0,v',h7,k1,k2,k3,k4,k5⟩:=(P.gro q6).app n6.at_ hle
  have le6:=q6.le
  have r7:h7.get h2.next = some (.cells [.int .i64 (n:Int),v] true):=by rw [k3.same _ (by omega) fun e => by have:=fr _ e; omega,q6.same _ lt]; exact rb
  have e8:stV 1 (.ptr h2.next 1) v' h7 = some (aundef,h7.set h2.next (.cells [.int .i64 (n:Int),v'] true)):=stV_at (k:=1) r7 (by simp) k2.own.at.scalar
  have eb:∀ tm:List AV,nth tm 3 = v6 -> evalA (.bslice 1 1 [.nils] [(0, .tmp 3)]) tm h6 = some (.cells [v6] true, .slice h6.next 0 1 (.exact 1)):=fun tm e => by
   simp only [evalA,fillsS,ev_tmp,e,scalar_cells n6.at_.scalar]; rfl
  simp (disch:=omega) only [RSf.down,lssT,i1,i2,l0,l4,l5,l6,WDV_succ,WDV_zero,f4,f5,f6,WDE_some,WDE_none,checks,lower,recheck,AOp.cls,AV.beq_refl,cond_true,true_and]
  rw [WDs_bslice0,eb _ rfl,WDA_some]
  simp (disch:=omega) only [RSf.down,WDs_append,WDs_store,k1,WDE_none,e8,add1N]
  have e5:(A.take (k + 1)).map (fun s => cj s x) = (A.take k).map (fun s => cj s x) ++ [cj s x]:=by
   have:A.take (k + 1) = A.take k ++ [s]:=by rw [List.take_add_one,hs]; rfl
   rw [this,List.map_append]; rfl
  have f6n:∀ j,oid v6 = some j -> h2.next < j:=fun j hj => by
   obtain ⟨i,cap,e,hi⟩:=n6.new
   rw [e] at hj; cases hj
   have:=q5.le; omega
  have ch:Chg (fun j => j = h2.next) h7 (h7.set h2.next (.cells [.int .i64 (n:Int),v'] true)):=Chg.set (F:=fun j => j = h2.next) h7 rfl _
  refine next hkl _ ⟨by omega,_,_,_,v',c ++ [v6],_,rfl,?_,by show h2.next < h7.next; omega,AHeap.get_set_same _ _ _,?_,?_,fun j hj => by rw [k4] at hj; cases hj; omega,fun a ha j hj => ?_⟩
  ·have le0:h.next <= h2.next:=by omega
   exact ((g.trans q6).chg_new k3 fun j hj => by have:=fr j hj; omega).set le0 _
  ·rw [AHeap.get_set_ne _ _ (by omega),k3.same _ (by omega) fun e => by have:=fr _ e; omega,q6.same _ (by omega)]; exact r8'
  ·rw [e5]
   exact k2.other ch (fun j hj e => by rw [k4] at hj; cases hj; omega) fun b hb j hj e => by
    rcases List.mem_append.1 hb with hb | hb
    ·have:=fc b hb j hj; omega
    ·rw [List.mem_singleton.1 hb] at hj; have:=f6n j hj; omega
  ·rcases List.mem_append.1 ha with ha | ha
   ·exact fc a ha j hj
   ·rw [List.mem_singleton.1 ha] at hj; exact f6n j hj
 ·obtain rfl:k = A.length:=by omega
  rw [List.take_length] at P
  have l0:loadV (some 2) (.ptr h2.next 0) h' = some (.agg [.int .i64 (n:Int),v]):=loadV_two rb
  have e9:stV 2 (.ptr (h.next + 1) 0) (.agg [.int .i64 (n:Int),v]) h' = some (aundef,h'.set (h.next + 1) (.cells [.int .i64 (n:Int),v] true)):=stV_two r8' rfl P.own.at.scalar
  simp (disch:=omega) only [RSf.down,lssF,l0,e9]
  have ch:Chg (fun j => j = h.next + 1) h' (h'.set (h.next + 1) (.cells [.int .i64 (n:Int),v] true)):=Chg.set (F:=fun j => j = h.next + 1) h' rfl _
  refine ⟨(fun i hi => by cases hi), .tup [.agg [.int .i64 (n:Int),v], .int .i64 0],result_ct rfl (loadV_two (AHeap.get_set_same _ _ _)),v,c,rfl,P.other ch (fun j hj e => by have:=fr j hj; omega) (fun b hb j hj e => by have:=fc b hb j hj; omega),g.set (by omega) _,fun j hj => by have:=fr j hj; omega,fun a ha j hj => by have:=fc a ha j hj; omega⟩
end
end Go.AM
namespace Go.AM
open Go Go.GT
theorem cen_nor {n:Nat} {S A l m:List Pm} (hS:∀ s ∈ S,PV n s) (hA:∀ s ∈ A,PV n s) (hel:IsEl n S l) (hm:IsEl n A m) {x:Pm} (hx:x ∈ cenL l A):x ∈ norG l A m:=by
 obtain ⟨x1,x2⟩:=mem_cenL.1 hx
 refine mem_norG.2 ⟨x1,fun s hs => ?_⟩
 rw [(cj_fix (hA s hs) (el_pv hS hel x1)).2 (x2 s hs)]
 exact (hm.mem s).2 (Gen.of hA hs)
theorem gcj_some {l m k:List Pm} {y:Pm} (hy:y ∈ l) (e:mvd m y = k):∃ x,gcj l m k = some x /\ x ∈ l /\ mvd m x = k:=by
 cases h:gcj l m k with
 | none =>
  have:=List.find?_eq_none.1 h y hy
  rw [decide_eq_true_iff] at this
  exact absurd e this
 | some x => exact ⟨x,rfl,List.mem_of_find?_eq_some h,of_decide_eq_true (List.find?_some (p:=fun x => decide (mvd m x = k)) h)⟩
section
variable {I:Oracle} (hC:Cjc I) {h:AHeap}
include hC
theorem lawNrm_spec {vg vg2 : AV} {ls ls2 : List (List Int)} (hg : LsAt h vg ls) (d : Int) (hg2 : LsAt h vg2 ls2) (d2 : Int) :
  ∃ h',lim otab.get I (.fn 20) [.agg [.int .i64 d,vg], .agg [.int .i64 d2,vg2]] h = some (.bool true,h') /\ Gro h h':=by
 have hNo:=hC.srt.no
 refine (lim_walk_ex (T:=otab.get) (I:=I) (f:=20) (fn:=of20) rfl (a:=[.agg [.int .i64 d,vg], .agg [.int .i64 d2,vg2]]) (h:=h) (P:=fun a h' => a = .bool true /\ Gro h h') (hNo.at _ _ (by decide) (by decide) (by decide)) ?_) |> fun ⟨a,h',e,q1,q2⟩ => ⟨h',by rw [e,q1],q2⟩
 show WK _ _ [] ⟨[.agg [.int .i64 d,vg], .agg [.int .i64 d2,vg2],aundef,aundef,aundef,aundef,aundef,aundef,aundef,aundef,aundef,aundef,aundef,aundef],h⟩ _
 dsimp only [of20,Z.t,Z.f,Z.i,Z.q,Z.m,Z.l,Z.b,Z.c,Z.w]
 have y1:=Gro.push h (.cells [.int .i64 d,vg] true)
 have y2:=Gro.push (h.push (.cells [.int .i64 d,vg] true)) (.cells [.int .i64 d2,vg2] true)
 have x1:(h.push (.cells [.int .i64 d,vg] true)).next = h.next + 1:=rfl
 have ba:=fun {h'} (g:Gro _ h') => box_all (h:=h) (c:=[.int .i64 d,vg]) (r:=true) (h':=h') (y2.trans g) (n:=2) rfl
 have bb:=fun {h'} (g:Gro _ h') => box_all (h:=h.push (.cells [.int .i64 d,vg] true)) (c:=[.int .i64 d2,vg2]) (r:=true) (h':=h') g (n:=2) rfl
 have la:=fun {h'} (g:Gro _ h') => box_ld (h:=h) (c:=[.int .i64 d,vg]) (r:=true) (h':=h') (y2.trans g) (o:=0) rfl
 have lb:=fun {h'} (g:Gro _ h') => box_ld (h:=h.push (.cells [.int .i64 d,vg] true)) (c:=[.int .i64 d2,vg2]) (r:=true) (h':=h') g (o:=0) rfl
 rw [x1] at bb lb
 have g1:=y1.trans y2
 obtain ⟨h2,f2,g2⟩:=awake25_spec hC (h:=(h.push (.cells [.int .i64 d,vg] true)).push (.cells [.int .i64 d2,vg2] true))
 simp (disch:=omega) only [RSf.down,x1,f2,not_bool,Bool.not_true]
 have lx1:((h.push (.cells [.int .i64 d,vg] true)).push (.cells [.int .i64 d2,vg2] true)).next = h.next + 2:=rfl
 generalize (h.push (.cells [.int .i64 d,vg] true)).push (.cells [.int .i64 d2,vg2] true) = h1 at g1 ba bb la lb f2 g2 lx1 ⊢
 have a2:=ba g2
 obtain ⟨h3,f3,g3⟩:=small_spec hNo (hg.gro (g1.trans g2)) d
 have k3:=g2.trans g3
 by_cases s1:SmallG d ls
 case neg =>
  rw [decide_eq_false s1] at f3
  obtain ⟨hz,fz,gz⟩:=awake25_spec hC (h:=h3)
  simp (disch:=omega) only [RSf.down,a2,f3,not_bool,Bool.not_false,fz]
  exact ⟨(fun i hi => by cases hi),_,rfl,rfl,g1.trans (k3.trans gz)⟩
 rw [decide_eq_true s1] at f3
 have b3:=bb k3
 obtain ⟨h4,f4,g4⟩:=small_spec hNo (hg2.gro (g1.trans k3)) d2
 have k4:=k3.trans g4
 by_cases s2:SmallG d2 ls2
 case neg =>
  rw [decide_eq_false s2] at f4
  obtain ⟨hz,fz,gz⟩:=awake25_spec hC (h:=h4)
  simp (disch:=omega) only [RSf.down,a2,f3,b3,f4,not_bool,Bool.not_true,Bool.not_false,fz]
  exact ⟨(fun i hi => by cases hi),_,rfl,rfl,g1.trans (k4.trans gz)⟩
 rw [decide_eq_true s2] at f4
 have a4:=la k4
 have b4:=lb k4
 by_cases hdd:d = d2
 case neg =>
  obtain ⟨hz,fz,gz⟩:=awake25_spec hC (h:=h4)
  simp (disch:=omega) only [RSf.down,a2,f3,b3,f4,not_bool,Bool.not_true,a4,b4,neqT hdd,fz]
  exact ⟨(fun i hi => by cases hi),_,rfl,rfl,g1.trans (k4.trans gz)⟩
 subst hdd
 have hc:groupErr d ls = 0:=s1.2.1
 have hc2:groupErr d ls2 = 0:=s2.2.1
 obtain ⟨l,hel,hl⟩:=s1.2.2
 obtain ⟨m0,helm,hlm⟩:=s2.2.2
 have he:HasEl d ls:=fun _ => ⟨l,hel,by omega⟩
 have he2:HasEl d ls2:=fun _ => ⟨m0,helm,by omega⟩
 obtain ⟨n,rfl,hn,hl32,hls,hSv⟩:=group_of_ok hc
 obtain ⟨n2,en2,_,hl232,hls2,hSv2⟩:=group_of_ok hc2
 obtain rfl:n = n2:=by omega
 have e2:jE2 (n:Int) ls (n:Int) ls2 = 0:=by unfold jE2; rw [if_neg fun h => h hc,if_neg fun h => h hc2,if_neg fun h => h rfl]
 have hel':=hel
 have helm':=helm
 rw [Int.toNat_natCast] at hel helm
 have hL:l.length <= 5040:=by omega
 have hLm:m0.length <= 5040:=by omega
 have pv:∀ x ∈ l,PV n x:=fun x hx => el_pv hSv hel hx
 have pm:∀ x ∈ m0,PV n x:=fun x hx => el_pv hSv2 helm hx
 have hA32:(gS ls2).length <= 32:=by unfold gS; rw [List.length_map]; omega
 have b4':=bb k4
 obtain ⟨v5,h5,f5,g5,r⟩:=elements_spec hNo ((hg2.gro (g1.trans k4)).pms hls2) hSv2 (by omega) (by omega)
 obtain ⟨m,vm,cm,r1,r2,rfl,r4,_⟩:=r.resolve_right fun q => q.1 ⟨m0,helm,hlm⟩
 obtain rfl:=r1.unique helm
 have k5:=k4.trans g5
 have lenM:∀ {h':AHeap},lenV 1 vm h' = some (.int .i64 (m.length:Int)):=fun {h'} => r4.pms.len
 by_cases hm24:24 < m.length
 ·simp (disch:=omega) only [RSf.down,a2,f3,b3,f4,not_bool,Bool.not_true,a4,b4,neqF,b4',f5,lenM,gtrT]
  exact ⟨(fun i hi => by cases hi),_,rfl,rfl,g1.trans k5⟩
 have a5:=ba k5
 have b5:=bb k5
 obtain ⟨v6,h6,f6,g6,_,c6⟩:=gCjg_spec hC.srt (hg.gro (g1.trans k5)) (hg2.gro (g1.trans k5)) (n:Int) (n:Int) he he2
 rw [e2] at f6
 obtain ⟨lo,GR⟩:=c6 e2 l hel' hL m helm' hLm
 rw [Int.toNat_natCast] at GR
 have k6:=k5.trans g6
 have a6:=ba k6
 have b6:=bb k6
 obtain ⟨D7,v7,h7,f7,g7,_,c7⟩:=gNor_spec hC.srt (hg.gro (g1.trans k6)) (hg2.gro (g1.trans k6)) (n:Int) (n:Int) he he2
 rw [e2] at f7
 obtain ⟨rfl,c7'⟩:=c7 e2
 obtain ⟨cN,pN⟩:=c7' l hel' hL m helm' hLm
 rw [Int.toNat_natCast] at pN
 have e8:stV 2 (.ptr h7.next 0) (.agg [.int .i64 (n:Int),v7]) (h7.push (.cells [.int .i64 0, .nils] true)) = some (aundef,(h7.push (.cells [.int .i64 0, .nils] true)).set h7.next (.cells [.int .i64 (n:Int),v7] true)):=stV_two (AHeap.get_push_same h7 _) rfl pN.own.at.scalar
 have g8:Gro h7 ((h7.push (.cells [.int .i64 0, .nils] true)).set h7.next (.cells [.int .i64 (n:Int),v7] true)):=(Gro.push h7 _).set (Nat.le_refl _) _
 have r8:((h7.push (.cells [.int .i64 0, .nils] true)).set h7.next (.cells [.int .i64 (n:Int),v7] true)).get h7.next = some (.cells [.int .i64 (n:Int),v7] true):=AHeap.get_set_same _ _ _
 have x8:((h7.push (.cells [.int .i64 0, .nils] true)).set h7.next (.cells [.int .i64 (n:Int),v7] true)).next = h7.next + 1:=rfl
 simp (disch:=omega) only [RSf.down,a2,f3,b3,f4,not_bool,Bool.not_true,a4,b4,neqF,b4',f5,lenM,gtrF,a5,b5,f6,a6,b6,f7,e8]
 clear a2 f3 b3 f4 a4 b4 b4' f5 a5 b5 f6 a6 b6 f7 e8
 generalize (h7.push (.cells [.int .i64 0, .nils] true)).set h7.next (.cells [.int .i64 (n:Int),v7] true) = h8 at g8 r8 x8 ⊢
 have k8:=k6.trans (g7.trans g8)
 have ldN:∀ {h'},Gro h8 h' -> loadV (some 2) (.ptr h7.next 0) h' = some (.agg [.int .i64 (n:Int),v7]):=fun g => loadV_two (by rw [g.same _ (by omega)]; exact r8)
 have ldN1:∀ {h'},Gro h8 h' -> loadV none (.ptr h7.next 1) h' = some v7:=fun g => loadV_get (by rw [g.same _ (by omega)]; exact r8) rfl
 have a8:=ba k8
 have b8:=bb k8
 obtain ⟨D9,v9,h9,f9,g9,_,c9⟩:=gCenOf_spec hC.srt (hg.gro (g1.trans k8)) (hg2.gro (g1.trans k8)) (n:Int) (n:Int) he he2
 rw [e2] at f9
 obtain ⟨rfl,c9'⟩:=c9 e2
 obtain ⟨cZ,pZ⟩:=c9' l hel' hL
 rw [Int.toNat_natCast] at pZ
 have e10:stV 2 (.ptr h9.next 0) (.agg [.int .i64 (n:Int),v9]) (h9.push (.cells [.int .i64 0, .nils] true)) = some (aundef,(h9.push (.cells [.int .i64 0, .nils] true)).set h9.next (.cells [.int .i64 (n:Int),v9] true)):=stV_two (AHeap.get_push_same h9 _) rfl pZ.own.at.scalar
 have g10:Gro h9 ((h9.push (.cells [.int .i64 0, .nils] true)).set h9.next (.cells [.int .i64 (n:Int),v9] true)):=(Gro.push h9 _).set (Nat.le_refl _) _
 have r10:((h9.push (.cells [.int .i64 0, .nils] true)).set h9.next (.cells [.int .i64 (n:Int),v9] true)).get h9.next = some (.cells [.int .i64 (n:Int),v9] true):=AHeap.get_set_same _ _ _
 have x10:((h9.push (.cells [.int .i64 0, .nils] true)).set h9.next (.cells [.int .i64 (n:Int),v9] true)).next = h9.next + 1:=rfl
 simp (disch:=omega) only [RSf.down,a8,b8,f9,e10]
 clear a8 b8 f9 e10
 generalize (h9.push (.cells [.int .i64 0, .nils] true)).set h9.next (.cells [.int .i64 (n:Int),v9] true) = h10 at g10 r10 x10 ⊢
 have g8A:=g9.trans g10
 have k10:=k8.trans g8A
 have ldZ:∀ {h'},Gro h10 h' -> loadV (some 2) (.ptr h9.next 0) h' = some (.agg [.int .i64 (n:Int),v9]):=fun g => loadV_two (by rw [g.same _ (by omega)]; exact r10)
 have hNv:∀ q ∈ norG l (gS ls2) m,PV n q:=fun q hq => pv q (mem_norG.1 hq).1
 have hNc:=nor_closed hSv hSv2 hel helm
 have hNa:Asc (norG l (gS ls2) m):=List.Pairwise.sublist List.filter_sublist hel.asc
 have hNl:(norG l (gS ls2) m).length <= 240:=Nat.le_trans (List.length_filter_le _ _) hl
 have hNr:=red_few hNv hNc (by omega)
 have hNe:=red_el hNv hNa hNc
 have hNz:=err_zero hn hNr (fun s hs => hNv s (red_mem hs))
 have hZv:∀ q ∈ cenL l (gS ls2),PV n q:=fun q hq => pv q (mem_cenL.1 hq).1
 have hZc:=cen_closed hSv hel hSv2
 have hZl:(cenL l (gS ls2)).length <= 240:=Nat.le_trans (List.length_filter_le _ _) hl
 have hZr:=red_few hZv hZc (by omega)
 have ndm:=helm.asc.nodup
 have hcount:=cjg_count hSv hSv2 hel helm
 have hLz:LsAt h vg2 ((gS ls2).map zs):=by rw [<- hls2]; exact hg2
 have hA5:Bnd n (gS ls2) 5040:=⟨m,fun p hp => (helm.mem p).2 hp,hLm⟩
 have pA:PmsAt h vg2 (gS ls2):=hg2.pmsS hc2
 have a10:=ba k10
 obtain ⟨ko,h11,f11,g11,_,o11⟩:=porder_spec hNo (hg.gro (g1.trans k10)) (n:Int) (fun _ => by rw [Int.toNat_natCast]; exact ⟨l,fun p hp => (hel.mem p).2 hp,hL⟩)
 obtain rfl:=o11 hc l hel'
 rw [hc] at f11
 have gN8:Gro h7 h11:=g8.trans (g8A.trans g11)
 have n11:=ldN (g8A.trans g11)
 obtain ⟨ko2,h12,f12,g12,_,o12⟩:=porder_spec hNo (pN.gro gN8).lsAt (n:Int) (fun _ => by rw [Int.toNat_natCast,gS_zs]; exact ⟨_,fun p hp => (hNe.mem p).2 hp,by omega⟩)
 obtain rfl:=o12 hNz _ (by rw [Int.toNat_natCast,gS_zs]; exact hNe)
 rw [hNz] at f12
 have g10B:=g11.trans g12
 have z12:=ldZ g10B
 have n12:=ldN (g8A.trans g10B)
 have pZ12:=pZ.gro (g10.trans g10B)
 have pN12:=pN.gro (gN8.trans g12)
 obtain ⟨h13,f13,g13⟩:=isub_spec hNo hn pZ12.pms pN12.pms pZ12.lsAt pN12.lsAt (fun s hs => hZv s (red_mem hs)) (fun s hs => hNv s (red_mem hs)) hZr hNr ⟨_,fun p hp => (hNe.mem p).2 hp,by omega⟩ (fun s hs => (hNe.mem s).1 (cen_nor hSv hSv2 hel helm (red_mem hs)))
 have k13:=k10.trans (g10B.trans g13)
 have g8D:=g8A.trans (g10B.trans g13)
 have lenG:∀ {h':AHeap},lenV 1 v6 h' = some (.int .i64 ((cjg l m).length:Int)):=fun {h'} => by
  have:=GR.len (h':=h'); rwa [List.length_map] at this
 have hcl:(cjg l m).length <= l.length:=by
  have:=cjg_len (l:=l) (m:=m) (Nat.le_refl _); rwa [List.take_length] at this
 have hmul:=mulN (e := .no) (n:=(cjg l m).length) (m:=(norG l (gS ls2) m).length) (by rw [hcount]; omega)
 rw [hcount] at hmul
 have GR13:=GR.gro (g7.trans (g8.trans g8D))
 simp (disch:=omega) only [RSf.down,a10,f11,n11,f12,z12,n12,f13,neqF,not_bool,Bool.not_true,lenG,hmul]
 clear a10 f11 n11 f12 z12 n12 f13
 refine WK_loopJ (fun i s => i <= (cjg l m).length /\ ∃ y2 y5 y6 y7 y8 y10 y11 y12 y13 h',s = ⟨[.int .i64 (i:Int), .ptr (h.next + 1) 0,y2,v6, .ptr h7.next 0,y5,y6,y7,y8, .ptr h.next 0,y10,y11,y12,y13],h'⟩ /\ Gro h13 h') (cjg l m).length
  ⟨Nat.zero_le _,_,_,_,_,_,_,_,_,_,h13,rfl,Gro.refl _⟩ ?_
 rintro i hi _ ⟨_,w2,w5,w6,w7,w8,w10,w11,w12,w13,h',rfl,g⟩ next
 have K:=k13.trans g
 by_cases hil:i < (cjg l m).length
 ·obtain ⟨r,hr⟩:=get_some hil
  have hrm':r ∈ cjg (l.take l.length) m:=by rw [List.take_length]; exact List.mem_of_getElem? hr
  obtain ⟨y,hy,hye⟩:=(mem_cjg (Nat.le_refl _)).1 hrm'
  rw [List.take_length] at hy
  have py:=pv y hy
  obtain ⟨p,a,ca,i1,i2,i3⟩:=(GR13.gro g).get (show ((cjg l m).map (red n))[i]? = some (red n r) by rw [List.getElem?_map,hr]; rfl)
  have pr:∀ s ∈ r,PV n s:=by rw [<- hye]; exact mvd_pv hSv2 helm py
  have rc:∀ p,Gen n r p -> p ∈ r:=by rw [<- hye]; exact mvd_closed hSv2 helm py
  have ra:Asc r:=by rw [<- hye]; exact asc_mvd
  have rl:r.length <= 24:=by rw [<- hye]; exact Nat.le_trans len_mvd (by omega)
  have rr:=red_few pr rc (by omega)
  have re:=red_el pr ra rc
  have rz:=err_zero hn rr (fun s hs => pr s (red_mem hs))
  have he3:HasEl (n:Int) ((red n r).map zs):=fun _ => ⟨r,by rw [Int.toNat_natCast,gS_zs]; exact re,by omega⟩
  have e3:jE3 (n:Int) ls (n:Int) ls2 (n:Int) ((red n r).map zs) = 0:=by
   unfold jE3; rw [if_neg fun h => h hc,if_neg fun h => h hc2,if_neg fun h => h rz,if_neg fun h => h.elim (fun h => h rfl) fun h => h rfl]
  have aK:=ba K
  have bK:=bb K
  have iK:=i2 h' (Gro.refl _)
  obtain ⟨vP,wP,hP,fP,gP,_,cP⟩:=gGcj_spec hC.srt (hg.gro (g1.trans K)) (hg2.gro (g1.trans K)) i3.lsAt (n:Int) (n:Int) (n:Int) he he2 he3
  obtain ⟨x,u1,u2,rfl⟩:∃ x,gcj l m r = some x /\ PmAt hP vP x /\ wP = 0:=by
   rcases cP e3 l hel' hL m helm' hLm r (by rw [Int.toNat_natCast,gS_zs]; exact re) (by omega) with q | ⟨q,_⟩
   ·exact q
   ·obtain ⟨x,q',_⟩:=gcj_some hy hye
    rw [q] at q'; cases q'
  obtain ⟨x',u3,u4,u5⟩:=gcj_some hy hye
  rw [u1] at u3
  obtain rfl:=Option.some.inj u3
  have px:=pv x u4
  have KP:=K.trans gP
  have bP:=bb KP
  obtain ⟨vQ,cQ,hQ,fQ,pQ,gQ,fq1,fq2⟩:=pconj_spec hNo hn (PmsAt.gro' pA (g1.trans KP)) (hLz.gro (g1.trans KP)) hSv2 hA32 u2 px
  have eQ:stV 2 (.ptr hQ.next 0) (.agg [.int .i64 (n:Int),vQ]) (hQ.push (.cells [.int .i64 0, .nils] true)) = some (aundef,(hQ.push (.cells [.int .i64 0, .nils] true)).set hQ.next (.cells [.int .i64 (n:Int),vQ] true)):=stV_two (AHeap.get_push_same hQ _) rfl pQ.own.at.scalar
  have gR:Gro hQ ((hQ.push (.cells [.int .i64 0, .nils] true)).set hQ.next (.cells [.int .i64 (n:Int),vQ] true)):=(Gro.push hQ _).set (Nat.le_refl _) _
  have lR:loadV (some 2) (.ptr hQ.next 0) ((hQ.push (.cells [.int .i64 0, .nils] true)).set hQ.next (.cells [.int .i64 (n:Int),vQ] true)) = some (.agg [.int .i64 (n:Int),vQ]):=loadV_two (AHeap.get_set_same _ _ _)
  simp (disch:=omega) only [RSf.down,lenG,lssT,aK,bK,i1,iK,WDs_extr,evalQ_extr,WDV_zero,fP,bP,fQ,eQ]
  generalize (hQ.push (.cells [.int .i64 0, .nils] true)).set hQ.next (.cells [.int .i64 (n:Int),vQ] true) = hR at gR lR eQ ⊢
  have gPR:=gP.trans (gQ.trans gR)
  have iR:=i2 hR gPR
  have pQR:=pQ.gro gR
  have i3R:=i3.gro gPR
  have pmv:∀ s ∈ (gS ls2).map (fun s => cj s x),PV n s:=fun q hq => by
   obtain ⟨s,hs,rfl⟩:=List.mem_map.1 hq
   exact PV.cj (hSv2 s hs) px
  have q1:∀ s ∈ (gS ls2).map (fun s => cj s x),Gen n (red n r) s:=fun q hq => by
   obtain ⟨s,hs,rfl⟩:=List.mem_map.1 hq
   refine (re.mem _).1 ?_
   rw [<- u5]; exact mem_mvd.2 ⟨s,(helm.mem s).2 (Gen.of hSv2 hs),rfl⟩
  have q2:∀ s ∈ red n r,Gen n ((gS ls2).map fun s => cj s x) s:=fun q hq => by
   have:=red_mem hq
   rw [<- u5] at this
   obtain ⟨t,ht,rfl⟩:=mem_mvd.1 this
   exact gen_map_cj hSv2 px ((helm.mem t).1 ht)
  obtain ⟨hS',fS,gS'⟩:=psame_spec hNo hn pQR.pms i3R.pms pQR.lsAt i3R.lsAt pmv (fun s hs => pr s (red_mem hs)) (by rw [List.length_map]; exact hA32) rr ⟨r,fun p hp => (re.mem p).2 (Gen.mono (fun s hs => pr s (red_mem hs)) q1 hp),by omega⟩ ⟨r,fun p hp => (re.mem p).2 hp,by omega⟩ q1 q2
  simp (disch:=omega) only [RSf.down,lR,i1,iR,WDs_extr,evalQ_extr,WDV_zero,fS,neqF,not_bool,Bool.not_true,add1N]
  exact next hil _ ⟨by omega,_,_,_,_,_,_,_,_,_,hS',rfl,g.trans (gPR.trans gS')⟩
 ·obtain rfl:i = (cjg l m).length:=by omega
  have pN':=pN.gro ((g8.trans g8D).trans g)
  have lenN:∀ {h':AHeap},lenV 1 v7 h' = some (.int .i64 ((red n (norG l (gS ls2) m)).length:Int)):=fun {h'} => pN'.pms.len
  simp (disch:=omega) only [RSf.down,lenG,lssF]
  refine WK_loopJ (fun j s => j <= (red n (norG l (gS ls2) m)).length /\ ∃ y2 y3 y5 y6 y7 y8 y10 y11 y12 y13 h'',s = ⟨[.int .i64 (j:Int), .ptr (h.next + 1) 0,y2,y3, .ptr h7.next 0,y5,y6,y7,y8, .ptr h.next 0,y10,y11,y12,y13],h''⟩ /\ Gro h' h'') (red n (norG l (gS ls2) m)).length
   ⟨Nat.zero_le _,_,_,_,_,_,_,_,_,_,_,h',rfl,Gro.refl _⟩ ?_
  rintro j hj _ ⟨_,z2,z3,z5,z6,z7,z8,z10,z11,z12,z13,h'',rfl,gg⟩ next2
  have KK:=K.trans gg
  have lN:=ldN1 (g8D.trans (g.trans gg))
  by_cases hjl:j < (red n (norG l (gS ls2) m)).length
  ·obtain ⟨x,hx⟩:=get_some hjl
   have hxm:=red_mem (List.mem_of_getElem? hx)
   have px:=hNv x hxm
   have xn:=mvd_nor hSv hSv2 hel helm hxm
   obtain ⟨j1,a,j2,j3⟩:=(pN'.gro gg).pms.get hx
   have bK:=bb KK
   have gp:=Gro.push h'' (.cells [.int .i64 0, .nils] true)
   have al:∀ tm:List AV,evalA (.alloc [.int .i64 0, .nils]) tm h'' = some (.cells [.int .i64 0, .nils] true, .ptr h''.next 0):=fun _ => rfl
   obtain ⟨vQ,cQ,hQ,fQ,pQ,gQ,fq1,fq2⟩:=pconj_spec hNo hn (PmsAt.gro' pA (g1.trans (KK.trans gp))) (hLz.gro (g1.trans (KK.trans gp))) hSv2 hA32 (j3.gro gp) px
   have q6:hQ.get h''.next = some (.cells [.int .i64 0, .nils] true):=by rw [gQ.same _ (Nat.lt_succ_self _)]; exact AHeap.get_push_same h'' _
   have e7:stV 2 (.ptr h''.next 0) (.agg [.int .i64 (n:Int),vQ]) hQ = some (aundef,hQ.set h''.next (.cells [.int .i64 (n:Int),vQ] true)):=stV_two q6 rfl pQ.own.at.scalar
   have gR:Gro h'' (hQ.set h''.next (.cells [.int .i64 (n:Int),vQ] true)):=(gp.trans gQ).set (Nat.le_refl _) _
   have lR:loadV (some 2) (.ptr h''.next 0) (hQ.set h''.next (.cells [.int .i64 (n:Int),vQ] true)) = some (.agg [.int .i64 (n:Int),vQ]):=loadV_two (AHeap.get_set_same _ _ _)
   have ch:Chg (fun j => j = h''.next) hQ (hQ.set h''.next (.cells [.int .i64 (n:Int),vQ] true)):=Chg.set (F:=fun j => j = h''.next) hQ rfl _
   have xp:(h''.push (.cells [.int .i64 0, .nils] true)).next = h''.next + 1:=rfl
   have pR:=pQ.other ch (fun j hj e => by have:=fq1 j hj; omega) (fun b hb j hj e => by have:=fq2 b hb j hj; omega)
   simp (disch:=omega) only [RSf.down,lN,lenN,lssT,bK,j1,j2]
   rw [WDs_a1 rfl (al _)]
   simp (disch:=omega) only [RSf.down,fQ,WDE_some,checks,cond_true]
   rw [recheck_a rfl (al _) q6]
   refine ⟨rfl,?_⟩
   simp (disch:=omega) only [RSf.down,lower,WDs_extr,evalQ_extr,WDV_zero,WDs_store,e7,WDE_none]
   generalize (hQ.set h''.next (.cells [.int .i64 (n:Int),vQ] true)) = hR at gR lR pR e7 ch ⊢
   have bR:=bb (KK.trans gR)
   have pmv:∀ s ∈ (gS ls2).map (fun s => cj s x),PV n s:=fun q hq => by
    obtain ⟨s,hs,rfl⟩:=List.mem_map.1 hq
    exact PV.cj (hSv2 s hs) px
   have q1:∀ s ∈ (gS ls2).map (fun s => cj s x),Gen n (gS ls2) s:=fun q hq => by
    obtain ⟨s,hs,rfl⟩:=List.mem_map.1 hq
    refine (helm.mem _).1 ?_
    rw [<- xn]; exact mem_mvd.2 ⟨s,(helm.mem s).2 (Gen.of hSv2 hs),rfl⟩
   have q2:∀ s ∈ gS ls2,Gen n ((gS ls2).map fun s => cj s x) s:=fun q hq => by
    have:=(helm.mem q).2 (Gen.of hSv2 hq)
    rw [<- xn] at this
    obtain ⟨t,ht,rfl⟩:=mem_mvd.1 this
    exact gen_map_cj hSv2 px ((helm.mem t).1 ht)
   obtain ⟨hS',fS,gS'⟩:=psame_spec hNo hn pR.pms (PmsAt.gro' pA (g1.trans (KK.trans gR))) pR.lsAt (hLz.gro (g1.trans (KK.trans gR))) pmv hSv2 (by rw [List.length_map]; exact hA32) hA32 ⟨m,fun p hp => (helm.mem p).2 (Gen.mono hSv2 q1 hp),hLm⟩ hA5 q1 q2
   simp (disch:=omega) only [RSf.down,lR,bR,fS,neqF,not_bool,Bool.not_true,add1N]
   exact next2 hjl _ ⟨by omega,_,_,_,_,_,_,_,_,_,_,hS',rfl,gg.trans (gR.trans gS')⟩
  ·obtain rfl:j = (red n (norG l (gS ls2) m)).length:=by omega
   simp (disch:=omega) only [RSf.down,lN,lenN,lssF]
   exact ⟨(fun i hi => by cases hi),_,rfl,rfl,g1.trans KK⟩
end
end Go.AM
