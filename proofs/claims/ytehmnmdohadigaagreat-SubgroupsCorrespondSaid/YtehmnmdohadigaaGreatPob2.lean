/- What the code computes: symbolic runs of the functions. No condition. -/
import Derived.Test.YtehmnmdohadigaaGreatPob1
set_option linter.unusedSimpArgs false
set_option maxRecDepth 100000
namespace Go.AM
open Go Go.GT
section
variable {I:Oracle} (hNo:NoI I) {h:AHeap}
include hNo
theorem within_spec {va vb : AV} {a b : Pm} (ha : PmAt h va a) (hb : PmAt h vb b) (aa : a.Pairwise (· < ·)) (ab : b.Pairwise (· < ·)) (la : a.length <= 1000000) (lb : b.length <= 1000000) :
  lim otab.get I (.fn 36) [va,vb] h=some (.bool (subB a b),h):=by
 refine lim_walk (fn:=of36) rfl (hNo.at _ _ (by decide) (by decide) (by decide)) ?_
 show WK _ _ [] ⟨[va,vb,aundef,aundef,aundef,aundef,aundef,aundef],h⟩ _
 dsimp only [of36,Z.t,Z.f,Z.i,Z.q,Z.m,Z.l,Z.b,Z.c,Z.w]
 have mono:∀ {l:Pm},l.Pairwise (· < ·)->∀ {i j:Nat},i < j->j < l.length->ap l i < ap l j:=fun {l} hl {i j} hij hj=>by
  have:=List.pairwise_iff_getElem.1 hl i j (by omega) hj hij
  rw [ap_lt_len (show i < l.length by omega),ap_lt_len hj]; exact this
 simp (disch:=omega) only [RSe.down]
 refine WK_loopJ (fun i s=>i <= a.length/\∃ y2 y4 y5 y6 k,s=⟨[va,vb,y2,.int .i64 ((k:Nat):Int),y4,y5,y6,.int .i64 (i:Int)],h⟩/\k <= b.length/\(∀ x∈a.take i,x∈b)/\∀ j i',j < k->i <= i'->i' < a.length->ap b j < ap a i') a.length
  ⟨Nat.zero_le _,_,_,_,_,0,rfl,Nat.zero_le _,(fun x hx=>by simp at hx),fun j i' hj=>absurd hj (Nat.not_lt_zero _)⟩ ?_
 rintro i hi _ ⟨_,y2,y4,y5,y6,k,rfl,hk,hin,hlow⟩ next
 by_cases hil:i < a.length
 ·have a1:=ha.iaddr (q := .i64) hil
  have a2:=ha.load hil
  simp (disch:=omega) only [RSe.down,ha.len,lssT]
  refine WK_loopM (fun z s=>∃ y2 y4 y5 y6 k,s=⟨[va,vb,y2,.int .i64 ((k:Nat):Int),y4,y5,y6,.int .i64 (i:Int)],h⟩/\k <= b.length/\z=b.length - k/\∀ j,j < k->ap b j < ap a i) ?_ _ _
   ⟨_,_,_,_,k,rfl,hk,rfl,fun j hj=>hlow j i hj (Nat.le_refl _) hil⟩
  rintro z _ ⟨z2,z4,z5,z6,q,rfl,hq,rfl,hql⟩ next2
  by_cases hqb:q < b.length
  ·have b1:=hb.iaddr (q := .i64) hqb
   have b2:=hb.load hqb
   by_cases hlt:ap b q < ap a i
   ·simp (disch:=omega) only [RSf.down,hb.len,lssT,b1,b2,a1,a2,add1N]
    exact next2 (b.length - (q+1)) _ (by omega) ⟨_,_,_,_,q+1,rfl,by omega,rfl,fun j hj=>by
     by_cases e:j=q
     ·rw [e]; exact hlt
     ·exact hql j (by omega)⟩
   ·by_cases heq:ap b q=ap a i
    ·simp (disch:=omega) only [RSf.down,hb.len,lssT,b1,b2,a1,a2,lssF,eqlF,neqF,add1N]
     refine next hil _ ⟨by omega,_,_,_,_,q,rfl,hq,fun x hx=>?_,fun j i' hj hi' hi'l=>?_⟩
     ·rw [take_succ_get (get?_ap hil)] at hx
      rcases List.mem_append.1 hx with w | w
      ·exact hin x w
      ·rw [List.mem_singleton.1 w,<- heq]; exact ap_mem hqb
     ·have h1:=hql j hj
      have h2:=mono aa (show i < i' by omega) hi'l
      omega
    ·simp (disch:=omega) only [RSf.down,hb.len,lssT,b1,b2,a1,a2,lssF,eqlF,neqT]
     refine ⟨(fun i hi=>by cases hi),?_,trivial⟩
     have:subB a b=false:=by
      refine Bool.eq_false_iff.2 fun hs=>?_
      obtain ⟨j,hj,e⟩:=List.mem_iff_getElem.1 (subB_iff.1 hs _ (ap_mem hil))
      have e':ap b j=ap a i:=by rw [ap_lt_len hj]; exact e
      rcases Nat.lt_trichotomy j q with w | w | w
      ·have:=hql j w; omega
      ·subst w; exact heq e'
      ·have:=mono ab w hj; omega
     rw [this]; rfl
  ·obtain rfl:q=b.length:=by omega
   simp (disch:=omega) only [RSf.down,hb.len,lssF,eqlT]
   refine ⟨(fun i hi=>by cases hi),?_,trivial⟩
   have:subB a b=false:=by
    refine Bool.eq_false_iff.2 fun hs=>?_
    obtain ⟨j,hj,e⟩:=List.mem_iff_getElem.1 (subB_iff.1 hs _ (ap_mem hil))
    have e':ap b j=ap a i:=by rw [ap_lt_len hj]; exact e
    have:=hql j hj; omega
   rw [this]; rfl
 ·obtain rfl:i=a.length:=by omega
  simp (disch:=omega) only [RSe.down,ha.len,lssF]
  rw [List.take_length] at hin
  refine ⟨(fun i hi=>by cases hi),?_,trivial⟩
  rw [subB_iff.2 hin]; rfl
end
end Go.AM
namespace Go.AM
open Go Go.GT
theorem c2p_get:∀ {P:List (Nat × Nat)} {k:Nat} {p:Nat × Nat},P[k]?=some p->(c2p P)[k * 2]?=some (.int .i64 (p.1:Int))/\(c2p P)[k * 2+1]?=some (.int .i64 (p.2:Int))
 | [],k,p,h=>by simp at h
 | q :: P,0,p,h=>by simp at h; subst h; exact ⟨rfl,rfl⟩
 | q :: P,k+1,p,h=>by
  have ih:=c2p_get (P:=P) (k:=k) (p:=p) (by simpa using h)
  have e:c2p (q :: P) = .int .i64 (q.1:Int) :: .int .i64 (q.2:Int) :: c2p P:=rfl
  rw [e,show (k+1) * 2=k * 2+1+1 by omega]
  simpa using ih
section
variable {h:AHeap} {v:AV} {P:List (Nat × Nat)}
theorem P2At.len (s:P2At h v P) {h':AHeap}:lenV 1 v h'=some (.int .i64 (P.length:Int)):=by
 rcases s with ⟨rfl,e,_⟩ | ⟨i,cap,rfl,_⟩
 ·rw [e]; rfl
 ·rfl
theorem P2At.iaddr (s:P2At h v P) {k:Nat} {q:IntKind} (hk:k < P.length):iaddrV 2 v (.int q (k:Int))=some (ead2 v k):=by
 rcases s with ⟨rfl,e,_⟩ | ⟨i,cap,rfl,_⟩
 ·omega
 ·show (if 0 <= (k:Int)/\(k:Int) < (P.length:Int) then some (AV.ptr i (0+(k:Int).toNat * 2)) else none)=_
  rw [if_pos (by omega),Int.toNat_natCast,Nat.zero_add]; rfl
theorem P2At.at (s:P2At h v P) {k:Nat} {p:Nat × Nat} (hk:P[k]?=some p):∃ j,ead2 v k = .ptr j (k * 2)/\loadV (some 2) (.ptr j (k * 2)) h=some (.agg [.int .i64 (p.1:Int),.int .i64 (p.2:Int)])/\loadV none (.ptr j (k * 2)) h=some (.int .i64 (p.1:Int))/\loadV none (.ptr j (k * 2+1)) h=some (.int .i64 (p.2:Int)):=by
 have hl:=(List.getElem?_eq_some_iff.1 hk).1
 obtain ⟨a,b⟩:=c2p_get hk
 rcases s with ⟨rfl,e,_⟩ | ⟨i,cap,rfl,_,_,_,h3⟩
 ·omega
 ·refine ⟨i,rfl,?_,loadV_get h3 a,loadV_get h3 b⟩
  show (match cellsOf h i with | some c=>fit (some 2) (k * 2) c | none=>none)=_
  rw [cellsOf_get h3]
  show (match cut (c2p P) (k * 2) 2 with | some r=>some (AV.agg r) | none=>none)=_
  rw [cut_two _ _ _ _ a b]
end
end Go.AM
namespace Go.AM
open Go Go.GT
theorem remN {e:EqK} {n d:Nat} (hd:0 < d) (hn:n <= 4611686018427387904):bin .rem e (.int .i64 (n:Int)) (.int .i64 (d:Int))=some (.int .i64 ((n % d:Nat):Int)):=by
 rw [rem_pos (by omega) (by omega)]; rfl
theorem quoN {e:EqK} {n d:Nat} (hd:0 < d) (hn:n <= 4611686018427387904):bin .quo e (.int .i64 (n:Int)) (.int .i64 (d:Int))=some (.int .i64 ((n / d:Nat):Int)):=by
 rw [quo_pos (by omega) (by omega) (by omega)]; rfl
end Go.AM
namespace Go.AM
open Go Go.GT
theorem LsAt.sc {h:AHeap} {v:AV} {ls:List (List Int)} (s:LsAt h v ls):v.scalar=true:=by
 obtain ⟨c,s1,_⟩:=s
 exact s1.scalar
theorem ev_bs1 {d:Int} {vg:AV} {k:Nat} {h:AHeap} (tm:List AV) (e:nth tm k = .agg [.int .i64 d,vg]):evalA (.bslice 1 2 [.int .i64 0,.nils] [(0,.tmp k)]) tm h=some (.cells [.int .i64 d,vg] true,.slice h.next 0 1 (.exact 1)):=by
 simp only [evalA,fillsS,ev_tmp,e]; rfl
end Go.AM
namespace Go.AM
open Go Go.GT
section
variable {I:Oracle} (hS:Srt I) {h:AHeap}
include hS
theorem action_spec {n : Nat} {vg vu : AV} {A B l : List Pm} {K : List Nat} (hn : n <= 20) (hu : PmsAt h vu A) (hg : PmsAt h vg B) (lu : LsAt h vu (A.map zs)) (lg : LsAt h vg (B.map zs)) (hA : ∀ s∈A,PV n s) (hB : ∀ s∈B,PV n s) (hlA : A.length <= 32) (hlB : B.length <= 32) (hel : IsEl n B l) (helu : IsEl n A (elsOf l K)) (hl : l.length <= 120) (hG : ∀ s∈A,Gen n B s) (hK : GT.Sub l.length (op l) K) (h20 : (fst l.length (op l) K).length <= 20) :
  ∃ v c h',lim otab.get I (.fn 59) [.agg [.int .i64 (n:Int),vg],.agg [.int .i64 (n:Int),vu]] h=some (.tup [v,.int .i64 0],h')/\PL h' v c (cgens l K B)/\Gro h h':=by
 have hNo:=hS.no
 refine (lim_walk_ex (T:=otab.get) (I:=I) (f:=59) (fn:=of59) rfl (a:=[.agg [.int .i64 (n:Int),vg],.agg [.int .i64 (n:Int),vu]]) (h:=h) (P:=fun r h'=>∃ v c,r = .tup [v,.int .i64 0]/\PL h' v c (cgens l K B)/\Gro h h') (hNo.at _ _ (by decide) (by decide) (by decide)) ?_) |> fun ⟨r,h',e,v,c,q1,q2⟩=>⟨v,c,h',by rw [e,q1],q2⟩
 show WK _ _ [] ⟨[.agg [.int .i64 (n:Int),vg],.agg [.int .i64 (n:Int),vu],aundef,aundef,aundef,aundef,aundef,aundef,aundef,aundef,aundef,aundef],h⟩ _
 dsimp only [of59,Z.t,Z.f,Z.i,Z.q,Z.m,Z.l,Z.b,Z.c,Z.w]
 have eA:=err_zero hn hlA hA
 have eB:=err_zero hn hlB hB
 have hgB:gS (B.map zs)=B:=gS_zs
 have hgA:gS (A.map zs)=A:=gS_zs
 have hT:=hel.tg hB
 have y1:=Gro.push h (.cells [.int .i64 (n:Int),vg] true)
 have y2:=Gro.push (h.push (.cells [.int .i64 (n:Int),vg] true)) (.cells [.int .i64 (n:Int),vu] true)
 have x1:(h.push (.cells [.int .i64 (n:Int),vg] true)).next=h.next+1:=rfl
 have x2:((h.push (.cells [.int .i64 (n:Int),vg] true)).push (.cells [.int .i64 (n:Int),vu] true)).next=h.next+2:=rfl
 have ba:=fun {h'} (g:Gro _ h')=>box_all (h:=h) (c:=[.int .i64 (n:Int),vg]) (r:=true) (h':=h') (y2.trans g) (n:=2) rfl
 have bl:=fun {h'} (g:Gro _ h')=>box_ld (h:=h) (c:=[.int .i64 (n:Int),vg]) (r:=true) (h':=h') (y2.trans g) (o:=1) rfl
 have bb:=fun {h'} (g:Gro _ h')=>box_all (h:=h.push (.cells [.int .i64 (n:Int),vg] true)) (c:=[.int .i64 (n:Int),vu]) (r:=true) (h':=h') g (n:=2) rfl
 rw [x1] at bb
 have g2:=y1.trans y2
 have b1:=ba (Gro.refl _)
 have b2:=bb (Gro.refl _)
 simp (disch:=omega) only [RSf.down,x1,b1,b2]
 generalize (h.push (.cells [.int .i64 (n:Int),vg] true)).push (.cells [.int .i64 (n:Int),vu] true)=h2 at g2 ba bl bb b1 b2 x2 ⊢
 rw [ev_bs1 _ rfl]
 have y3:=Gro.push h2 (.cells [.int .i64 (n:Int),vu] true)
 have r3:=AHeap.get_push_same h2 (.cells [.int .i64 (n:Int),vu] true)
 have x3:(h2.push (.cells [.int .i64 (n:Int),vu] true)).next=h2.next+1:=rfl
 simp (disch:=omega) only [RSf.down]
 generalize h2.push (.cells [.int .i64 (n:Int),vu] true)=h3 at y3 r3 x3 ⊢
 have g3:=g2.trans y3
 obtain ⟨h4,f4,g4⟩:=ccheck_spec hNo hn (hu.gro g3) (hg.gro g3) (lu.gro g3) (lg.gro g3) lu.sc lg.sc hA hB hlA hlB hel (by omega) hG (i1:=h2.next) (by omega) r3
 have b4:=ba (y3.trans g4)
 have c4:=bb (y3.trans g4)
 have g04:=g3.trans g4
 obtain ⟨a0,b0,vf,cf,im,E,h5,f5,sa0,sb0,p5,m5,i5,g5,hE⟩:=cosets_spec hS (lg.gro g04) (lu.gro g04) eB eA (by rw [hgB]; exact hel) (by rw [hgA]; exact helu) hK hl hn
 have sf:=p5.own.at.scalar
 have e6:stV 4 (.ptr h5.next 0) (.agg [a0,b0,vf,.map im]) (h5.push (.cells [.nils,.nils,.nils,.nilm] true))=some (aundef,(h5.push (.cells [.nils,.nils,.nils,.nilm] true)).set h5.next (.cells [a0,b0,vf,.map im] true)):=stV_four (AHeap.get_push_same _ _) sa0 sb0 sf rfl
 have g6:Gro h5 ((h5.push (.cells [.nils,.nils,.nils,.nilm] true)).set h5.next (.cells [a0,b0,vf,.map im] true)):=(Gro.push h5 _).set (Nat.le_refl _) _
 have r6:((h5.push (.cells [.nils,.nils,.nils,.nilm] true)).set h5.next (.cells [a0,b0,vf,.map im] true)).get h5.next=some (.cells [a0,b0,vf,.map im] true):=AHeap.get_set_same _ _ _
 have x6:((h5.push (.cells [.nils,.nils,.nils,.nilm] true)).set h5.next (.cells [a0,b0,vf,.map im] true)).next=h5.next+1:=by rw [AHeap.next_set]; rfl
 have lf6:loadV none (.ptr h5.next 2) ((h5.push (.cells [.nils,.nils,.nils,.nilm] true)).set h5.next (.cells [a0,b0,vf,.map im] true))=some vf:=loadV_get r6 rfl
 have hfl:(elsOf l (fst l.length (op l) K)).length=(fst l.length (op l) K).length:=by unfold elsOf; rw [List.length_map]
 have lnf:∀ {h':AHeap},lenV 1 vf h'=some (.int .i64 ((fst l.length (op l) K).length:Int)):=fun {h'}=>by rw [p5.pms.len,hfl]
 have lnB:∀ {h':AHeap},lenV 1 vg h'=some (.int .i64 (B.length:Int)):=fun {h'}=>hg.len
 have bl6:=bl (y3.trans (g4.trans (g5.trans g6)))
 simp (disch:=omega) only [RSf.down,f4,neqF,b4,c4,f5,e6,lf6,lnf,gtrF,bl6,lnB]
 have g06:=g04.trans (g5.trans g6)
 generalize (h5.push (.cells [.nils,.nils,.nils,.nilm] true)).set h5.next (.cells [a0,b0,vf,.map im] true)=h6 at g6 r6 x6 lf6 bl6 g06 ⊢
 clear e6
 have hcl:(cgens l K B).length=B.length:=List.length_map _
 refine WK_loopJ (fun k s=>k <= B.length/\∃ y0 y1 y2 y3 y4 y6 y7 v9 c9 h',s=⟨[y0,y1,y2,y3,y4,.ptr h5.next 0,y6,y7,.int .i64 (k:Int),v9,vg,.int .i64 (B.length:Int)],h'⟩/\Gro h6 h'/\PL h' v9 c9 ((cgens l K B).take k)/\∀ j,oid v9=some j->h6.next <= j) B.length
  ⟨Nat.zero_le _,_,_,_,_,_,_,_,_,[],h6,rfl,Gro.refl _,PL.nil,(fun j hj=>by cases hj)⟩ ?_
 rintro k hk _ ⟨_,y0,z1,z2,z3,z4,z6,z7,v9,c9,h',rfl,g',P,fr⟩ next
 by_cases hkl:k < B.length
 ·obtain ⟨s,hs⟩:=get_some hkl
  have hsB:=List.mem_of_getElem? hs
  have ps:=hB s hsB
  obtain ⟨px,pe⟩:=hel.place (Gen.of hB hsB)
  obtain ⟨i1,a,i2,i3⟩:=(PmsAt.gro' hg (g06.trans g')).get hs
  have lf':loadV none (.ptr h5.next 2) h'=some vf:=loadV_get (by rw [g'.same _ (by omega)]; exact r6) rfl
  simp (disch:=omega) only [RSf.down,lssT,i1,i2,lf',lnf]
  refine WK_loopJ (fun j t=>j <= (fst l.length (op l) K).length/\∃ v1 w2 w3 h'',t=⟨[.int .i64 (j:Int),v1,w2,w3,vf,.ptr h5.next 0,a,.int .i64 ((fst l.length (op l) K).length:Int),.int .i64 (k:Int),v9,vg,.int .i64 (B.length:Int)],h''⟩/\Gro h' h''/\Own 1 h'' v1 j (pc ((cpm l.length (op l) K (place l s)).take j))/\∀ j,oid v1=some j->h'.next <= j) (fst l.length (op l) K).length
   ⟨Nat.zero_le _,_,_,_,h',rfl,Gro.refl _,Own.nil,(fun j hj=>by cases hj)⟩ ?_
  rintro j hj _ ⟨_,v1,w2,w3,h'',rfl,g'',o1,fr1⟩ next2
  have gg:=g'.trans g''
  by_cases hjl:j < (fst l.length (op l) K).length
  ·obtain ⟨c,hc,hcN,_⟩:=fst_get hjl
   have hcp:(cpm l.length (op l) K (place l s))[j]?=some (cix l.length (op l) K (op l c (place l s))):=by unfold cpm; rw [List.getElem?_map,hc]; rfl
   have pf:=(p5.gro g6).gro gg
   obtain ⟨j1,b,j2,j3⟩:=pf.pms.get (show (elsOf l (fst l.length (op l) K))[j]?=some (el l c) by unfold elsOf; rw [List.getElem?_map,hc]; rfl)
   have hcv:=(hel.el hB hcN).2
   obtain ⟨v3,h7,f7,n7⟩:=cmul_spec hNo j3 (i3.gro g'') hcv ps (by omega)
   have hop:=hel.op hB hcN px
   rw [pe] at hop
   have g67:=gg.trans n7.gro
   have m7:h7.get im=some (.map (smp E)):=by rw [(g6.trans g67).same _ i5]; exact m5
   obtain ⟨h8,f8,g8⟩:=cof_spec hNo (a:=a0) (b:=b0) (c:=vf) m7 (by have:=(g6.trans g67).le; omega) n7.at_ (hcv.mul ps) hn (by rw [<- hop.2]; exact hE _ hop.1)
   have ld1:loadV (some 4) (.ptr h5.next 0) h''=some (.agg [a0,b0,vf,.map im]):=loadV_four (by rw [gg.same _ (by omega)]; exact r6)
   have ld2:loadV (some 4) (.ptr h5.next 0) h7=some (.agg [a0,b0,vf,.map im]):=loadV_four (by rw [g67.same _ (by omega)]; exact r6)
   have g78:=n7.gro.trans g8
   have hix:=cix_lt hT hK hop.1
   obtain ⟨b',h9,k9,o9,c9',j9,x9⟩:=(o1.gro g78).app1 (bytes:=8) (c:=[.int .i64 ((cix l.length (op l) K (op l c (place l s)):Nat):Int)]) rfl rfl (by decide) (by omega)
   simp (disch:=omega) only [RSf.down,lssT,j1,j2,ld1,WDV_succ,WDV_zero,f7,WDE_some,checks,lower,recheck,AOp.cls,AV.beq_refl,cond_true,true_and,ld2,f8,WDE_none,WDs_bslice0,WDA_some,WDs_append,WDs_mov,k9,add1N]
   refine next2 hjl _ ⟨by omega,_,_,_,h9,rfl,(g''.trans g78).chg_new c9' fun j hj=>fr1 j hj,?_,fun j hj=>?_⟩
   ·rw [take_succ_get hcp,<- pc_app]; exact o9
   ·rw [j9] at hj; cases hj; have:=(g''.trans g78).le; omega
  ·obtain rfl:j=(fst l.length (op l) K).length:=by omega
   have hcp:(cpm l.length (op l) K (place l s)).length=(fst l.length (op l) K).length:=cpm_len
   rw [<- hcp,List.take_length] at o1
   have a1:PmAt h'' v1 (cpm l.length (op l) K (place l s)):=o1.at
   have hct:((cgens l K B).take k).length <= 32:=Nat.le_trans (List.length_take_le _ _) (by omega)
   obtain ⟨e3,b',h9,e4,p9,c9',j9,x9⟩:=(P.gro g'').app a1 (by omega)
   simp (disch:=omega) only [RSf.down,lssF,e3,e4,add1N]
   refine next hkl _ ⟨by omega,_,_,_,_,_,_,_,b',c9 ++ [v1],h9,rfl,gg.chg_new c9' fun j hj=>fr j hj,?_,fun j hj=>?_⟩
   ·rw [take_succ_get (show (cgens l K B)[k]?=some (cpm l.length (op l) K (place l s)) by unfold cgens; rw [List.getElem?_map,hs]; rfl)]; exact p9
   ·rw [j9] at hj; cases hj; have:=gg.le; omega
 ·obtain rfl:k=B.length:=by omega
  simp (disch:=omega) only [RSf.down,lssF]
  rw [<- hcl,List.take_length] at P
  exact ⟨(fun i hi=>by cases hi),_,rfl,v9,c9,rfl,P,g06.trans g'⟩
end
end Go.AM
namespace Go.AM
open Go Go.GT
section
variable {I:Oracle} (hS:Srt2 I) {h:AHeap}
include hS
theorem listed_spec {vg : AV} {ls : List (List Int)} (hg : LsAt h vg ls) {d : Int} {l : List Pm} (o : OkG d ls l) :
  ∃ v c vt ct L h',lim otab.get I (.fn 28) [.agg [.int .i64 d,vg]] h=some (.tup [v,vt,.bool true],h')/\PL h' v c L/\PL h' vt ct (rowsT l.length (op l))/\SubsL l.length (op l) L/\Gro h h':=by
 have hNo:=hS.srt.no
 refine (lim_walk_ex (T:=otab.get) (I:=I) (f:=28) (fn:=of28) rfl (a:=[.agg [.int .i64 d,vg]]) (h:=h) (P:=fun a h'=>∃ v c vt ct L,a = .tup [v,vt,.bool true]/\PL h' v c L/\PL h' vt ct (rowsT l.length (op l))/\SubsL l.length (op l) L/\Gro h h') (hNo.at _ _ (by decide) (by decide) (by decide)) ?_) |> fun ⟨a,h',e,v,c,vt,ct,L,q1,q2⟩=>⟨v,c,vt,ct,L,h',by rw [e,q1],q2⟩
 show WK _ _ [] ⟨[.agg [.int .i64 d,vg],aundef,aundef,aundef,aundef,aundef,aundef,aundef,aundef],h⟩ _
 dsimp only [of28,Z.t,Z.f,Z.i,Z.q,Z.m,Z.l,Z.b,Z.c,Z.w]
 have g1:=Gro.push h (.cells [.int .i64 d,vg] true)
 have ba:=fun {h'} (g:Gro _ h')=>box_all (h:=h) (c:=[.int .i64 d,vg]) (r:=true) (h':=h') g (n:=2) rfl
 have b1:=ba (Gro.refl _)
 have hl:=o.few
 obtain ⟨vt,ct,h2,f2,pt,g2⟩:=table28_spec hNo (hg.gro g1) o
 have b2:=ba g2
 have g12:=g1.trans g2
 obtain ⟨v,c,L,h3,f3,p3,s3,g3,_⟩:=gAll_ok hS (hg.gro g12) o
 have hfew:=subs_few o.tg hl s3.nd fun H hH=>(s3.mem H).1 hH
 have hpos:=s3.pos o.tg
 have pt3:=pt.gro g3
 have tl:=pt3.pms.len (h':=h3)
 rw [rowsT_len] at tl
 simp (disch:=omega) only [RSe.down,b1,f2,b2,f3,neqF,p3.pms.len,eqlF]
 refine WK_loopJ (fun i s=>i <= L.length/\∃ y0 y1 y2 y5 y6 y7,s=⟨[y0,y1,y2,.int .i64 (i:Int),v,y5,y6,y7,vt],h3⟩) L.length ⟨Nat.zero_le _,_,_,_,_,_,_,rfl⟩ ?_
 rintro i hi _ ⟨_,y0,y1,y2,y5,y6,y7,rfl⟩ next
 by_cases hil:i < L.length
 ·obtain ⟨i1,a,i2,i3⟩:=p3.pms.get (get_lk hil)
  have hs:=s3.sub hil
  simp (disch:=omega) only [RSe.down,p3.pms.len,lssT]
  refine WK_loopJ (fun k s=>k <= (lk L i).length/\∃ y0 y2 y5 y6 y7,s=⟨[y0,.int .i64 (k:Int),y2,.int .i64 (i:Int),v,y5,y6,y7,vt],h3⟩) (lk L i).length ⟨Nat.zero_le _,_,_,_,_,_,rfl⟩ ?_
  rintro k hk _ ⟨_,z0,z2,z5,z6,z7,rfl⟩ next2
  have hlen:(lk L i).length <= 24:=by
   have:=nodup_le hs.nd (l':=List.range l.length) fun x hx=>List.mem_range.2 (hs.lt x hx)
   rw [List.length_range] at this; omega
  by_cases hkl:k < (lk L i).length
  ·have k1:=i3.iaddr (q := .i64) hkl
   have k2:=i3.load hkl
   have hlt:=hs.lt _ (ap_mem hkl)
   by_cases hk0:k=0
   ·subst hk0
    simp (disch:=omega) only [RSf.down,i1,i2,i3.len,lssT,k1,k2,lssF,tl,geqF,gtrF,add1N]
    exact next2 hkl _ ⟨by omega,_,_,_,_,_,rfl⟩
   ·have hkp:k - 1 < (lk L i).length:=by omega
    have m1:=i3.iaddr (q := .i64) hkp
    have m2:=i3.load hkp
    have hasc:ap (lk L i) (k - 1) < ap (lk L i) k:=by
     have:=List.pairwise_iff_getElem.1 hs.asc (k - 1) k hkp hkl (by omega)
     rw [ap_lt_len hkp,ap_lt_len hkl]; exact this
    simp (disch:=omega) only [RSf.down,i1,i2,i3.len,lssT,k1,k2,lssF,tl,geqF,gtrT,sub1N,m1,m2,leqF,add1N]
    exact next2 hkl _ ⟨by omega,_,_,_,_,_,rfl⟩
  ·obtain rfl:k=(lk L i).length:=by omega
   by_cases hi0:i=0
   ·subst hi0
    simp (disch:=omega) only [RSf.down,i1,i2,i3.len,lssF,gtrF,add1N]
    exact next hil _ ⟨by omega,_,_,_,_,_,_,rfl⟩
   ·have hip:i - 1 < L.length:=by omega
    obtain ⟨j1,b,j2,j3⟩:=p3.pms.get (get_lk hip)
    have hsp:=s3.sub hip
    have hlp:(lk L (i - 1)).length <= 24:=by
     have:=nodup_le hsp.nd (l':=List.range l.length) fun x hx=>List.mem_range.2 (hsp.lt x hx)
     rw [List.length_range] at this; omega
    have fl:=less28_spec hNo j3 i3 (by omega)
    rw [s3.ord (show i - 1 < i by omega) hil] at fl
    simp (disch:=omega) only [RSf.down,i1,i2,i3.len,lssF,gtrT,sub1N,j1,j2,fl,not_bool,Bool.not_true,add1N]
    exact next hil _ ⟨by omega,_,_,_,_,_,_,rfl⟩
 ·obtain rfl:i=L.length:=by omega
  simp (disch:=omega) only [RSe.down,p3.pms.len,lssF]
  exact ⟨(fun i hi=>by cases hi),_,rfl,v,c,vt,ct,L,rfl,p3,pt3,s3,g12.trans g3⟩
end
end Go.AM
namespace Go.AM
open Go Go.GT
theorem u8_nat {a:Int} (h:(Lit.int .u8 a).wf=true):∃ n:Nat,a=(n:Int)/\n <= 255:=by
 have h':(decide ((0:Int) <= a) && decide (a <= 255))=true:=h
 rw [Bool.and_eq_true,decide_eq_true_eq,decide_eq_true_eq] at h'
 exact ⟨a.toNat,by omega,by omega⟩
theorem ints_of {h:AHeap} {v:AV} {p:Pm} (s:PmAt h v p):IAt h v (List.map (fun x:Nat=>(x:Int)) p):=by
 have:pc p=ic (List.map (fun x:Nat=>(x:Int)) p):=by unfold pc ic; rw [List.map_map]; rfl
 unfold PmAt at s; rw [this] at s; exact s
end Go.AM
namespace Go.AM
open Go Go.GT
section
variable {I:Oracle} (hNo:NoI I) {h:AHeap}
include hNo
def Lrg (d:Int) (ls:List (List Int)):Prop:=¬ FewL ls \/ (groupErr d ls=0/\¬ SmallG d ls)
noncomputable instance (d:Int) (ls:List (List Int)):Decidable (Lrg d ls):=Classical.propDecidable _
end
end Go.AM
namespace Go.AM
open Go Go.GT
theorem red_pow {n:Nat}:∀ {M A:List Pm},(∀ q∈M,PV n q)->(∀ q∈A,PV n q)->(∃ L:List Pm,L.Nodup/\L.length=2 ^ A.length/\∀ x∈L,Gen n A x)->∃ L:List Pm,L.Nodup/\L.length=2 ^ (M.foldl (redS n) A).length/\∀ x∈L,Gen n (M.foldl (redS n) A) x
 | [],_,_,_,h=>h
 | q :: M,A,hM,hA,⟨L,h1,h2,h3⟩=>by
  rw [List.foldl_cons]
  by_cases e:Gen n A q
  ·rw [redS_in e]; exact red_pow (fun x hx=>hM x (.tail _ hx)) hA ⟨L,h1,h2,h3⟩
  ·rw [redS_out e]
   have pq:=hM q (.head _)
   have hA':∀ x∈A ++ [q],PV n x:=fun x hx=>by
    rcases List.mem_append.1 hx with hx | hx
    ·exact hA x hx
    ·rw [List.mem_singleton.1 hx]; exact pq
   have up:∀ {x},Gen n A x->Gen n (A ++ [q]) x:=fun hx=>Gen.mono hA' (fun s hs=>Gen.of hA' (List.mem_append_left _ hs)) hx
   refine red_pow (fun x hx=>hM x (.tail _ hx)) hA' ⟨L ++ L.map fun x=>mul x q,?_,by rw [List.length_append,List.length_map,List.length_append,h2]; show 2 ^ A.length+2 ^ A.length=2 ^ (A.length+1); omega,fun x hx=>?_⟩
   ·refine List.nodup_append.2 ⟨h1,?_,?_⟩
    ·refine List.pairwise_map.2 (List.Pairwise.imp_of_mem (fun {x y} hx hy hne exy=>hne ?_) h1)
     have px:=(h3 x hx).pv hA
     have py:=(h3 y hy).pv hA
     rw [<- pq.mul_inv_cancel px,<- pq.mul_inv_cancel py,exy]
    ·rintro x hx y hy rfl
     obtain ⟨z,hz,rfl⟩:=List.mem_map.1 hy
     have pz:=(h3 z hz).pv hA
     have:mul (GT.inv z) (mul z q)=q:=by rw [<- pz.inv.assoc pz pq,pz.inv_mul,pq.one_mul]
     exact e (this ▸ ((h3 z hz).inv hA).mul' hA (h3 _ hx))
   ·rcases List.mem_append.1 hx with hx | hx
    ·exact up (h3 x hx)
    ·obtain ⟨z,hz,rfl⟩:=List.mem_map.1 hx
     exact .mul (up (h3 z hz)) (List.mem_append_right _ (.head _))
theorem red_few {n:Nat} {M:List Pm} (hM:∀ q∈M,PV n q) (hcl:∀ p,Gen n M p->p∈M) (hl:M.length <= 5040):(red n M).length <= 32:=by
 obtain ⟨L,h1,h2,h3⟩:=red_pow (n:=n) (M:=M) (A:=[]) hM (fun q hq=>by cases hq) ⟨[one n],by simp,rfl,fun x hx=>by rw [List.mem_singleton.1 hx]; exact .one⟩
 have h4:=nodup_le h1 fun x hx=>hcl x ((red_iff hM).1 (h3 x hx))
 have h5:L.length=2 ^ (red n M).length:=h2
 by_cases e:(red n M).length <= 32
 ·exact e
 ·have:2 ^ 33 <= 2 ^ (red n M).length:=Nat.pow_le_pow_right (by decide) (by omega)
  have h33:(2:Nat) ^ 33=8589934592:=by decide
  omega
end Go.AM
namespace Go.GT
theorem nor_ne {N:Nat} {m:Nat->Nat->Nat} {L:List (List Nat)} (hT:TG N m) (hL:SubsL N m L):norL N m L ≠ []:=fun e=>by
 have hall:=sub_all hT
 obtain ⟨k,hk⟩:=List.getElem?_of_mem ((hL.mem _).2 hall)
 have hkl:=(List.getElem?_eq_some_iff.1 hk).1
 have hlk:lk L k=List.range N:=by unfold lk; rw [List.getD,hk]; rfl
 have:k∈norL N m L:=by
  unfold norL
  refine List.mem_filter.2 ⟨List.mem_range.2 hkl,List.all_eq_true.2 fun x hx=>?_⟩
  have hxN:=List.mem_range.1 hx
  rw [beq_iff_eq,hlk,cjC_eq hT hxN]
  have hs:=cjS_sub hT hall hxN
  refine hs.ext hall fun y=>⟨fun hy=>List.mem_range.2 (hs.lt y hy),fun hy=>?_⟩
  have hyN:=List.mem_range.1 hy
  obtain ⟨j,j1,j2,j3⟩:=hT.inv x hxN
  refine (mem_cjS hT hall.lt hxN).2 ⟨m (m x y) j,List.mem_range.2 (hT.cl _ _ (hT.cl _ _ hxN hyN) j1),?_⟩
  obtain ⟨t1,t2,t3⟩:=ti_spec hT hxN
  have a1:=hT.cl x y hxN hyN
  rw [hT.assoc _ _ _ t1 (hT.cl _ _ a1 j1) hxN,hT.assoc _ _ _ a1 j1 hxN,j3,hT.r1 _ a1,<- hT.assoc _ _ _ t1 hxN hyN,t3,hT.l1 _ hyN]
 rw [e] at this; cases this
end Go.GT
namespace Go.AM
open Go Go.GT
theorem quo_el {n:Nat} {S l:List Pm} {K:List Nat} (hS:∀ s∈S,PV n s) (h:IsEl n S l) (hK:GT.Sub l.length (op l) K) (hn:∀ x,x < l.length->∀ k∈K,op l (op l (ti l.length (op l) x) k) x∈K):∃ lQ,IsEl (fst l.length (op l) K).length (cgens l K S) lQ/\lQ.length <= l.length :=
 ⟨((List.range l.length).map (cpm l.length (op l) K)).foldl addP [],⟨asc_foldP List.Pairwise.nil,fun p=>by
  rw [mem_foldP,List.mem_map,cgens_iff hS h hK hn]
  simp only [List.mem_range,List.not_mem_nil,or_false]⟩,by
  have:=len_foldP (M:=(List.range l.length).map (cpm l.length (op l) K)) (L:=[])
  rw [List.length_map,List.length_range] at this
  simpa using this⟩
theorem cov_len {L:List (List Nat)} (hl:L.length <= 512):(covL L).length <= 512 * 512:=by
 have:=covTo_len (L:=L) (i:=L.length)
 have h2:L.length * L.length <= 512 * 512:=Nat.mul_le_mul hl hl
 have e:covTo L L.length=covL L:=rfl
 rw [e] at this; omega
theorem PL.stay_two {n i:Nat} {h:AHeap} {v:AV} {c:List AV} {ps:List Pm} {kd:IntKind} {m:Int} {r:Bool} (s:PL h v c ps) (hg:h.get i=some (.cells [.int kd m,.nils] r)) (hp:∀ p∈ps,PV n p/\p ≠ GT.one n) (x:AObj):PL (h.set i x) v c ps:=by
 have ch:Chg (fun j=>j=i) h (h.set i x):=Chg.set (F:=fun j=>j=i) h rfl _
 refine ⟨s.own.chg ch fun j hj e=>?_,s.len,fun t a p ha hq=>?_⟩
 ·subst e
  rcases s.own with ⟨rfl,_⟩ | ⟨j',cap,rfl,_,hc,_,h5⟩
  ·cases hj
  ·cases hj
   rw [hg] at h5
   injection h5 with h5
   injection h5 with h5 _
   have hl:=s.len
   rw [<- h5] at hl
   have hl2:ps.length=2:=by rw [<- hl]; rfl
   obtain ⟨q,hq⟩:=get_some (show 0 < ps.length by omega)
   have:=s.el 0 (.int kd m) q (by rw [<- h5]; rfl) hq
   exact this.not_int kd m rfl
 ·have pa:=s.el t a p ha hq
  obtain ⟨pv,pn⟩:=hp p (List.mem_of_getElem? hq)
  by_cases p0:p=[]
  ·subst p0; exact pa.nil_any (Nat.le_refl _)
  ·refine pa.chg ch fun j hj e=>?_
   subst e
   rcases pa with ⟨rfl,_⟩ | ⟨j',o,cap,full,rfl,_,h3,_⟩
   ·cases hj
   ·cases hj
    have hpc:pc p ≠ []:=fun e=>p0 (List.map_eq_nil_iff.1 e)
    obtain ⟨e1,e2⟩:=h3 hpc
    rw [cellsOf_get hg] at e1
    cases e1
    obtain ⟨u1,u2,u3⟩:=cut_spec e2
    have hpos:0 < p.length:=List.length_pos_iff.2 p0
    by_cases n2:2 <= n
    ·have hl:=pv.len
     rw [pc_len] at u2
     have h1:=u3 1 (by rw [pc_len]; omega)
     rw [pc_get (by omega)] at h1
     have ho:o=0:=by simp only [List.length_cons,List.length_nil] at u2; omega
     subst ho
     cases h1
    ·have hl:=pv.len
     have hn1:n=1:=by omega
     subst hn1
     refine pn (pv.ext (PV.one 1) fun i hi=>?_)
     have h1:=pv.ap_lt hi
     have h2:=(PV.one 1).ap_lt hi
     omega
section
variable {I:Oracle} (hC:Srt2 I) {h:AHeap}
include hC
theorem lawCor_spec {vg:AV} {ls:List (List Int)} (hg:LsAt h vg ls) (d:Int) {a:Int} (ha:(Lit.int .u8 a).wf=true):∃ h',lim otab.get I (.fn 11) [.agg [.int .i64 d,vg],.int .u8 a] h=some (.bool true,h')/\Gro h h':=by
 have hNo:=hC.srt.no
 obtain ⟨xa,rfl,hxa⟩:=u8_nat ha
 refine (lim_walk_ex (T:=otab.get) (I:=I) (f:=11) (fn:=of11) rfl (a:=[.agg [.int .i64 d,vg],.int .u8 (xa:Int)]) (h:=h) (P:=fun a h'=>a = .bool true/\Gro h h') (hNo.at _ _ (by decide) (by decide) (by decide)) ?_) |> fun ⟨a,h',e,q1,q2⟩=>⟨h',by rw [e,q1],q2⟩
 show WK _ _ [] ⟨[.agg [.int .i64 d,vg],.int .u8 (xa:Int),aundef,aundef,aundef,aundef,aundef,aundef,aundef,aundef,aundef,aundef],h⟩ _
 dsimp only [of11,Z.t,Z.f,Z.i,Z.q,Z.m,Z.l,Z.b,Z.c,Z.w]
 have g1:=Gro.push h (.cells [.int .i64 d,vg] true)
 have ba:=fun {h'} (g:Gro _ h')=>box_all (h:=h) (c:=[.int .i64 d,vg]) (r:=true) (h':=h') g (n:=2) rfl
 obtain ⟨h2,f2,g2⟩:=awake28_spec hC (h:=h.push (.cells [.int .i64 d,vg] true))
 have b2:=ba g2
 have g12:=g1.trans g2
 obtain ⟨h3,f3,g3⟩:=small28_spec hNo (hg.gro g12) d
 have b3:=ba (g2.trans g3)
 have g13:=g12.trans g3
 by_cases hs:Small28 d ls
 ·rw [decide_eq_true hs] at f3
  obtain ⟨l,k1,k2⟩:=hs.2
  have o:OkG d ls l:=⟨hs.1.2.1,k1,k2⟩
  have hl:=o.few
  have hT:=o.tg
  have hpos:=hT.pos
  obtain ⟨v,c,vt,ct,L,h4,f4,p4,pt4,s4,g4⟩:=listed_spec hC (hg.gro g13) o
  have k14:=(g2.trans g3).trans g4
  have b4:=ba k14
  have hfew:=subs_few hT hl s4.nd fun H hH=>(s4.mem H).1 hH
  have tl:∀ {h':AHeap},lenV 1 vt h'=some (.int .i64 (l.length:Int)):=fun {h'}=>by
   have:=pt4.pms.len (h':=h'); rwa [rowsT_len] at this
  have lL:∀ {h':AHeap},lenV 1 v h'=some (.int .i64 (L.length:Int)):=fun {h'}=>p4.pms.len
  obtain ⟨v5,L5,h5,f5,p5,s5,g5⟩:=gNor_ok hC (hg.gro (g1.trans k14)) o
  obtain rfl:=s5.unique s4
  have hnp:0 < (norL l.length (op l) L5).length:=List.length_pos_iff.2 (nor_ne hT s4)
  have ra:=remN (e := .no) (n:=xa) (d:=(norL l.length (op l) L5).length) (by omega) (by omega)
  have hia:=Nat.mod_lt xa hnp
  generalize xa % (norL l.length (op l) L5).length=i at ra hia
  obtain ⟨kk,hkk⟩:=get_some hia
  obtain ⟨hkL,hall⟩:=nor_mem (List.mem_of_getElem? hkk)
  have sK:=s4.sub hkL
  have hn:=nor_cj hT sK hall
  have lnN:∀ {h':AHeap},lenV 1 v5 h'=some (.int .i64 ((norL l.length (op l) L5).length:Int)):=fun {h'}=>p5.len
  have n1:=p5.iaddr (q := .i64) hia
  have n2:loadV none (eaddr v5 i) h5=some (.int .i64 (kk:Int)):=SlAt.load p5 (by unfold pc; rw [List.getElem?_map,hkk]; rfl)
  have pL5:=p4.gro g5
  obtain ⟨cL,t1,t2,t3⟩:=id p4.pms
  obtain ⟨vK,hvK⟩:=get_some (show kk < cL.length by omega)
  have pK:PmAt h4 vK (lk L5 kk):=t3 kk vK _ hvK (get_lk hkL)
  have i1:=t1.iaddr (q := .i64) (show kk < cL.length by omega)
  have i2:∀ {h'},Gro h4 h'->loadV none (eaddr v kk) h'=some vK:=fun g=>(t1.gro g).load hvK
  generalize hKK:lk L5 kk=K at sK hn pK
  have hKp:0 < K.length:=List.length_pos_iff.2 fun e=>by have:=sK.one; rw [e] at this; cases this
  have hK24:K.length <= 24:=by
   have:=nodup_le sK.nd (l':=List.range l.length) fun x hx=>List.mem_range.2 (sK.lt x hx)
   rw [List.length_range] at this; omega
  have hq:=quoN (e := .no) (n:=l.length) (d:=K.length) hKp (by omega)
  rw [fst_div hT sK] at hq
  have k15:=k14.trans g5
  have b5:=ba k15
  have i2a:=i2 g5
  by_cases h20:20 < (fst l.length (op l) K).length
  ·simp (disch:=omega) only [RSf.down,f2,not_bool,Bool.not_true,b2,f3,b3,f4,b4,f5,neqF,lnN,eqlF,toIntV_i64,ra,n1,n2,lssF,lL,geqF,i1,i2a,pK.len,tl,hq,gtrT,geqT,lssT]
   exact ⟨(fun i hi=>by cases hi),_,rfl,rfl,g1.trans k15⟩
  ·obtain ⟨n,rfl,hn20,hls32,hls,hSv⟩:=group_of_ok o.ok
   have hel:IsEl n (gS ls) l:=o.el
   have lK:=pK.len (h':=h5)
   simp (disch:=omega) only [RSf.down,f2,not_bool,Bool.not_true,b2,f3,b3,f4,b4,f5,neqF,lnN,eqlF,toIntV_i64,ra,n1,n2,lssF,lL,geqF,i1,i2a,pK.len,tl,hq,gtrF,b5]
   have al:∀ tm:List AV,evalA (.alloc [.int .i64 0,.nils]) tm h5=some (.cells [.int .i64 0,.nils] true,.ptr h5.next 0):=fun _=>rfl
   rw [WDs_a1 rfl (al _)]
   have gp:=Gro.push h5 (.cells [.int .i64 0,.nils] true)
   have hbad:(K.map fun x:Nat=>(x:Int)).any (badN l.length)=false:=by
    refine Bool.eq_false_iff.2 fun hh=>?_
    obtain ⟨y,hy,hy2⟩:=List.any_eq_true.1 hh
    obtain ⟨x,hx,rfl⟩:=List.mem_map.1 hy
    have:=of_decide_eq_true hy2
    have:=sK.lt x hx
    omega
   have hm:(K.map fun x:Nat=>(x:Int)).map Int.toNat=K:=by
    rw [List.map_map]
    conv=>rhs; rw [<- List.map_id K]
    exact List.map_congr_left fun x _=>Int.toNat_natCast x
   obtain ⟨v6,c6,h6,f6,p6,g6'⟩:=of_spec hC.srt (hg.gro (g1.trans (k15.trans gp))) o.ok o.el hT (by omega) (ints_of (pK.gro (g5.trans gp))) (by rw [List.length_map]; omega) hbad
   rw [hm,clo_self hT sK,Int.toNat_natCast] at p6
   have g6:=gp.trans g6'
   have q6:h6.get h5.next=some (.cells [.int .i64 0,.nils] true):=by rw [g6'.same _ (Nat.lt_succ_self _)]; exact AHeap.get_push_same h5 _
   have e7:stV 2 (.ptr h5.next 0) (.agg [.int .i64 (n:Int),v6]) h6=some (aundef,h6.set h5.next (.cells [.int .i64 (n:Int),v6] true)):=stV_two q6 rfl p6.own.at.scalar
   have hMv:=elsOf_pv hSv hel sK.lt
   have hRv:∀ s∈red n (elsOf l K),PV n s:=fun s hs=>hMv s (red_mem hs)
   have p7:=p6.stay_two q6 (fun p hp=>⟨hRv p hp,(red_new p hp).resolve_left (by simp)⟩) (.cells [.int .i64 (n:Int),v6] true)
   have g7:Gro h5 (h6.set h5.next (.cells [.int .i64 (n:Int),v6] true)):=g6.set (Nat.le_refl _) _
   have l7:loadV (some 2) (.ptr h5.next 0) (h6.set h5.next (.cells [.int .i64 (n:Int),v6] true))=some (.agg [.int .i64 (n:Int),v6]):=loadV_two (AHeap.get_set_same _ _ _)
   simp (disch:=omega) only [RSf.down,f6,WDE_some,checks,cond_true]
   rw [recheck_a rfl (al _) q6]
   refine ⟨rfl,?_⟩
   have k17:=k15.trans g7
   have b7:=ba k17
   simp (disch:=omega) only [RSf.down,lower,e7,b7,l7]
   generalize h6.set h5.next (.cells [.int .i64 (n:Int),v6] true)=h7 at g7 l7 p7 k17 b7 ⊢
   have hcl:=elsOf_cl hSv hel sK
   have hlM:(elsOf l K).length <= 24:=by unfold elsOf; rw [List.length_map]; exact hK24
   have hgS:(gS ls).length <= 32:=by unfold gS; rw [List.length_map]; exact hls32
   obtain ⟨v8,c8,h8,f8,p8,g8⟩:=action_spec hC.srt hn20 p7.pms ((hg.gro (g1.trans k17)).pms hls) p7.lsAt (by rw [<- hls]; exact hg.gro (g1.trans k17)) hRv hSv (red_few hMv hcl (by omega)) hgS hel (elsOf_el hSv hel sK) (by omega) (fun s hs=>by
    obtain ⟨x,hx,rfl⟩:=List.mem_map.1 (red_mem hs)
    exact (hel.el hSv (sK.lt x hx)).1) sK (by omega)
   have g58:=g7.trans g8
   have i2b:=i2 (g5.trans g58)
   have e9:stV 2 (.ptr h8.next 0) (.agg [.int .i64 ((fst l.length (op l) K).length:Int),v8]) (h8.push (.cells [.int .i64 0,.nils] true))=some (aundef,(h8.push (.cells [.int .i64 0,.nils] true)).set h8.next (.cells [.int .i64 ((fst l.length (op l) K).length:Int),v8] true)):=stV_two (AHeap.get_push_same _ _) rfl p8.own.at.scalar
   have g9:Gro h8 ((h8.push (.cells [.int .i64 0,.nils] true)).set h8.next (.cells [.int .i64 ((fst l.length (op l) K).length:Int),v8] true)):=(Gro.push h8 _).set (Nat.le_refl _) _
   have r9:((h8.push (.cells [.int .i64 0,.nils] true)).set h8.next (.cells [.int .i64 ((fst l.length (op l) K).length:Int),v8] true)).get h8.next=some (.cells [.int .i64 ((fst l.length (op l) K).length:Int),v8] true):=AHeap.get_set_same _ _ _
   have x9:((h8.push (.cells [.int .i64 0,.nils] true)).set h8.next (.cells [.int .i64 ((fst l.length (op l) K).length:Int),v8] true)).next=h8.next+1:=by rw [AHeap.next_set]; rfl
   have l9:=loadV_two r9
   have eb:∀ tm:List AV,nth tm 0 = .int .i64 ((fst l.length (op l) K).length:Int)->nth tm 7=v8->∀ hh,evalQ (.build [.int .i64 0,.nils] [(0,1,.tmp 0),(1,1,.tmp 7)]) tm hh=some (.agg [.int .i64 ((fst l.length (op l) K).length:Int),v8]):=fun tm e1 e2 hh=>by
    have hc:v8.cells=[v8]:=scalar_cells p8.own.at.scalar
    simp only [evalQ,fills,ev_tmp,e1,e2,hc]; rfl
   simp (disch:=omega) only [RSf.down,f8,neqF,tl,i1,i2b,pK.len,hq]
   rw [eb _ rfl rfl]
   simp (disch:=omega) only [RSf.down,e9,l9]
   generalize (h8.push (.cells [.int .i64 0,.nils] true)).set h8.next (.cells [.int .i64 ((fst l.length (op l) K).length:Int),v8] true)=h9 at g9 r9 x9 l9 ⊢
   have p9:=p8.gro g9
   have hcv:=cgens_pv hSv hel sK
   have herr:=err_zero (n:=(fst l.length (op l) K).length) (by omega) (S:=cgens l K (gS ls)) (by unfold cgens; rw [List.length_map]; exact hgS) hcv
   obtain ⟨hA,fA,gA⟩:=rgcheck hNo p9.lsAt ((fst l.length (op l) K).length:Int)
   rw [herr] at fA
   obtain ⟨lQ,hQ,hQl⟩:=quo_el hSv hel sK hn
   have oQ:OkG ((fst l.length (op l) K).length:Int) ((cgens l K (gS ls)).map zs) lQ:=⟨herr,by rw [Int.toNat_natCast,gS_zs]; exact hQ,by omega⟩
   have hTQ:=oQ.tg
   have ldQ:∀ {h'},Gro h9 h'->loadV (some 2) (.ptr h8.next 0) h'=some (.agg [.int .i64 ((fst l.length (op l) K).length:Int),v8]):=fun g=>loadV_two (by rw [g.same _ (by omega)]; exact r9)
   have lA:=ldQ gA
   obtain ⟨vB,cB,LQ,hB,fB,pB,sB,gB,_⟩:=gAll_ok hC (p9.lsAt.gro gA) oQ
   have kB:=k17.trans (g8.trans (g9.trans (gA.trans gB)))
   have bB:=ba kB
   obtain ⟨vD,LD,hD,fD,pD,sD,gD,_⟩:=gCov_ok hC (hg.gro (g1.trans kB)) o
   obtain rfl:=sD.unique s4
   have lD:=ldQ (gA.trans (gB.trans gD))
   obtain ⟨vE,LE,hE,fE,pE,sE,gE,_⟩:=gCov_ok hC (p9.lsAt.gro (gA.trans (gB.trans gD))) oQ
   obtain rfl:=sE.unique sB
   have hcor:=cor_hm hSv hel sK hn hQ
   have hlenc:=cor_len hT hTQ hcor sK s4 sB
   have hcovc:=cor_cov hT hTQ hcor sK s4 sB
   have kE:=kB.trans (gD.trans gE)
   have g4E:Gro h4 hE:=g5.trans (g58.trans (g9.trans (gA.trans (gB.trans (gD.trans gE)))))
   have pLE:=p4.gro g4E
   have pKE:=pK.gro g4E
   have pQE:=pB.gro (gD.trans gE)
   have pDE:P2At hE vD (covL LD):=Own.gro pD gE
   have i2E:=i2 g4E
   have lnQ:∀ {h':AHeap},lenV 1 vB h'=some (.int .i64 (LE.length:Int)):=fun {h'}=>pB.pms.len
   simp (disch:=omega) only [RSf.down,fA,neqF,lA,fB,bB,fD,lD,fE]
   have few:∀ {M:List Nat},Sub l.length (op l) M->M.length <= 24:=fun {M} s=>by
    have:=nodup_le s.nd (l':=List.range l.length) fun x hx=>List.mem_range.2 (s.lt x hx)
    rw [List.length_range] at this; omega
   have hfl:(LD.filter fun H=>subB K H).length=LE.length:=by
    have:=congrArg List.length hlenc
    rw [List.length_map,List.length_map] at this; exact this
   have hLE:LE.length <= 512:=by rw [<- hfl]; exact Nat.le_trans (List.length_filter_le _ _) hfew
   refine WK_loopJ (fun i s=>i <= LD.length/\∃ y0 y8 y9 y10,s=⟨[y0,.int .i64 (i:Int),v,.int .i64 (((LD.take i).filter fun H=>subB K H).length:Int),.int .i64 (kk:Int),vD,.int .i64 0,vB,y8,y9,y10,vE],hE⟩) LD.length ⟨Nat.zero_le _,_,_,_,_,rfl⟩ ?_
   rintro i hi _ ⟨_,y0,y8,y9,y10,rfl⟩ next
   by_cases hil:i < LD.length
   ·obtain ⟨j1,b,j2,j3⟩:=pLE.pms.get (get_lk hil)
    have sI:=s4.sub hil
    have fI:=few sI
    have fw:=within_spec hNo pKE j3 sK.asc sI.asc (by omega) (by omega)
    have hfs:=filt_succ (f:=fun H=>subB K H) (get_lk hil)
    have hle:=List.length_filter_le (fun H=>subB K H) (LD.take i)
    rw [List.length_take] at hle
    cases hsb:subB K (lk LD i) with
    | false =>
     rw [hsb] at fw hfs
     rw [if_neg (by decide),List.append_nil] at hfs
     simp (disch:=omega) only [RSf.down,lL,lssT,i1,i2E,j1,j2,fw,add1N]
     exact next hil _ ⟨by omega,_,_,_,_,by rw [hfs]⟩
    | true =>
     have hat:=filt_at (f:=fun H=>subB K H) (get_lk hil) hsb
     rw [hsb] at fw hfs
     rw [if_pos rfl] at hfs
     have hcnt:((LD.take i).filter fun H=>subB K H).length < LE.length:=by rw [<- hfl]; exact (List.getElem?_eq_some_iff.1 hat).1
     have hfs':((LD.take (i+1)).filter fun H=>subB K H).length=((LD.take i).filter fun H=>subB K H).length+1:=by rw [hfs,List.length_append]; rfl
     have hmap:(LE.map fun B=>K.length * B.length)[((LD.take i).filter fun H=>subB K H).length]?=some (lk LD i).length:=by rw [<- hlenc,List.getElem?_map,hat]; rfl
     generalize ((LD.take i).filter fun H=>subB K H).length=cn at hcnt hfs' hmap ⊢
     obtain ⟨m1,z,m2,m3⟩:=pQE.pms.get (get_lk hcnt)
     rw [List.getElem?_map,get_lk hcnt] at hmap
     have hml:K.length * (lk LE cn).length=(lk LD i).length:=Option.some.inj hmap
     have hmul:=mulN (e := .no) (n:=(lk LE cn).length) (m:=K.length) (by rw [Nat.mul_comm,hml]; omega)
     rw [Nat.mul_comm,hml] at hmul
     simp (disch:=omega) only [RSf.down,lL,lssT,i1,i2E,j1,j2,fw,lnQ,geqF,m1,m2,m3.len,pKE.len,hmul,j3.len,neqF,add1N]
     exact next hil _ ⟨by omega,_,_,_,_,by rw [hfs']⟩
   ·obtain rfl:i=LD.length:=by omega
    rw [List.take_length,hfl]
    simp (disch:=omega) only [RSf.down,lL,lssF]
    have hfc:∀ j,(((covL LD).take j).filter fun p=>subB K (lk LD p.1)).length <= (covL LE).length:=fun j=>by
     rw [<- hcovc]
     exact List.Sublist.length_le (List.Sublist.filter _ (List.take_sublist _ _))
    have hcE:(covL LE).length <= 512 * 512:=cov_len hLE
    have hcD:(covL LD).length <= 512 * 512:=cov_len hfew
    refine WK_loopJ (fun j s=>j <= (covL LD).length/\∃ y0 y8 y9 y10,s=⟨[y0,.int .i64 (j:Int),v,.int .i64 (LE.length:Int),.int .i64 (kk:Int),vD,.int .i64 ((((covL LD).take j).filter fun p=>subB K (lk LD p.1)).length:Int),vB,y8,y9,y10,vE],hE⟩) (covL LD).length ⟨Nat.zero_le _,_,_,_,_,rfl⟩ ?_
    rintro j hj _ ⟨_,w0,w8,w9,w10,rfl⟩ next2
    by_cases hjl:j < (covL LD).length
    ·obtain ⟨p,hp⟩:=get_some hjl
     obtain ⟨hp1,_,_⟩:=mem_covL.1 (List.mem_of_getElem? hp)
     have a1:=pDE.iaddr (q := .i64) hjl
     obtain ⟨q,a2,_,a4,_⟩:=pDE.at hp
     rw [a2] at a1
     have ia:∀ (tm:List AV) (x:AOpd) (i o:Nat),ev tm x = .ptr i o->evalQ (.iaddr (some 2) 1 x (.lit (.int .i64 0))) tm hE=some (.ptr i o):=fun tm x i o hx=>iaddrA (k:=0) (q := .i64) hx rfl (by decide)
     obtain ⟨j1,b,j2,j3⟩:=pLE.pms.get (get_lk hp1)
     have sI:=s4.sub hp1
     have fI:=few sI
     have fw:=within_spec hNo pKE j3 sK.asc sI.asc (by omega) (by omega)
     have hfs:=filt_succ (f:=fun p:Nat × Nat=>subB K (lk LD p.1)) hp
     have hb:=hfc j
     simp (disch:=omega) only [RSf.down,pDE.len,lssT,a1]
     rw [ia _ _ _ _ rfl]
     simp (disch:=omega) only [RSf.down,a4,lssF,a1]
     rw [ia _ _ _ _ rfl]
     simp (disch:=omega) only [RSf.down,a4,lL,geqF,i1,i2E,a1]
     rw [ia _ _ _ _ rfl]
     cases hsb:subB K (lk LD p.1) with
     | false =>
      rw [hsb] at fw hfs
      rw [if_neg (by decide),List.append_nil] at hfs
      simp (disch:=omega) only [RSf.down,WDV_zero,WDE_none,a4,j1,j2,fw,add1N]
      exact next2 hjl _ ⟨by omega,_,_,_,_,by rw [hfs]⟩
     | true =>
      rw [hsb] at fw hfs
      rw [if_pos rfl] at hfs
      have hfs':(((covL LD).take (j+1)).filter fun p=>subB K (lk LD p.1)).length=(((covL LD).take j).filter fun p=>subB K (lk LD p.1)).length+1:=by rw [hfs,List.length_append]; rfl
      simp (disch:=omega) only [RSf.down,WDV_zero,WDE_none,a4,j1,j2,fw,add1N]
      exact next2 hjl _ ⟨by omega,_,_,_,_,by rw [hfs']⟩
    ·obtain rfl:j=(covL LD).length:=by omega
     rw [List.take_length,hcovc]
     have lE:∀ {h':AHeap},lenV 1 vE h'=some (.int .i64 ((covL LE).length:Int)):=fun {h'}=>P2At.len pE
     simp (disch:=omega) only [RSf.down,pDE.len,lssF,lnQ,eqlT,lE]
     exact ⟨(fun i hi=>by cases hi),_,rfl,rfl,g1.trans kE⟩
 ·rw [decide_eq_false hs] at f3
  obtain ⟨h4,f4,g4⟩:=awake28_spec hC (h:=h3)
  simp (disch:=omega) only [RSf.down,f2,not_bool,Bool.not_true,b2,f3,Bool.not_false,f4]
  exact ⟨(fun i hi=>by cases hi),_,rfl,rfl,g13.trans g4⟩
end
end Go.AM
