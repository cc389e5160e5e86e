/- What the code computes: symbolic runs of the functions. No condition. -/
import Derived.Carry
import Derived.Lib.SmallJoins
import Derived.OpenShut
import Derived.ProofKit
import Derived.Test.YtehmnmdohadigaaGreatRows
import Derived.WalkKit
import Derived.Test.YtehmnmdohadigaaGreatPob0
set_option linter.unusedSimpArgs false
set_option maxRecDepth 100000
namespace Go.AM
open Go Go.GT
section
variable {C:CallT} {K:List Fr} {Q:AX->St->Prop}
theorem WDs_a1 {op : AOp} {d m : Nat} {r : List (AOper × Nat)} {ps : List ((AHeap->Bool) × Nat)} {tm : List AV} {h : AHeap} {b : AObj} {v : AV} (hc : op.cls = .a) (e : evalA op tm h=some (b,v)) :
  WDs C ((⟨some d,op,none⟩,m+1) :: r) ps K ⟨tm,h⟩ Q ↔ WDs C r ((recheck ⟨some d,op,none⟩ tm h (nth (put tm d v) d),m+1) :: ps) K ⟨put tm d v,h.push b⟩ Q:=by
 unfold WDs
 rw [runDraw_cons,if_pos (show wanted tm none=true from rfl),step1_a hc]
 dsimp only
 rw [e]
 simp only [hc]
 exact Iff.rfl
theorem recheck_a {op:AOp} {d:Option Nat} {g:Option (Nat × Bool)} {tm:List AV} {h h':AHeap} {c:List AV} {r:Bool} {v v0:AV} (hc:op.cls = .a) (e:evalA op tm h=some (.cells c r,v)) (hg:h'.get h.next=some (.cells c r)):recheck ⟨d,op,g⟩ tm h v0 h'=true:=by
 unfold recheck
 simp only [hc,e,hg]
 show (AV.beqs c c && (r == r))=true
 rw [AV.beqs_refl]; simp
end
theorem PmsAt.gro' {h h':AHeap} {v:AV} {S:List Pm} (s:PmsAt h v S) (g:Gro h h'):PmsAt h' v S:=LAt.gro (P:=PmAt) (fun _ _ _ _ s g=>SlAt.gro s g) s g
structure TabAt (h:AHeap) (it:Nat) (d:Int) (vg:AV) (l:List Pm):Prop where
 lt:it < h.next
 all:∃ va,loadV none (.ptr it 2) h=some va/\PmsAt h va l
 mul:∃ vm,loadV none (.ptr it 3) h=some vm/\PmsAt h vm (rowsT l.length (op l))
 inv:∃ vi,loadV none (.ptr it 4) h=some vi/\PmAt h vi ((List.range l.length).map fun i=>place l (inv (el l i)))
 grp:loadV (some 2) (.ptr it 0) h=some (.agg [.int .i64 d,vg])
section
variable {I:Oracle} (hS:Srt I) {h:AHeap}
include hS
theorem tabulate_spec {vg : AV} {ls : List (List Int)} (hg : LsAt h vg ls) {d : Int} (hc : groupErr d ls=0) {l : List Pm} (hel : IsEl d.toNat (gS ls) l) (hl : l.length <= 120) :
  ∃ it h',lim otab.get I (.fn 123) [.agg [.int .i64 d,vg]] h=some (.tup [.ptr it 0,.int .i64 0],h')/\TabAt h' it d vg l/\Gro h h':=by
 have hNo:=hS.no
 refine (lim_walk_ex (T:=otab.get) (I:=I) (f:=123) (fn:=of123) rfl (a:=[.agg [.int .i64 d,vg]]) (h:=h) (P:=fun v h'=>∃ it,v = .tup [.ptr it 0,.int .i64 0]/\TabAt h' it d vg l/\Gro h h') (hNo.at _ _ (by decide) (by decide) (by decide)) ?_) |> fun ⟨v,h',e,it,q1,q2⟩=>⟨it,h',by rw [e,q1],q2⟩
 show WK _ _ [] ⟨[.agg [.int .i64 d,vg],aundef,aundef,aundef,aundef,aundef,aundef,aundef,aundef,aundef,aundef,aundef,aundef],h⟩ _
 dsimp only [of123,Z.t,Z.f,Z.i,Z.q,Z.m,Z.l,Z.b,Z.c,Z.w]
 have g1:=Gro.push h (.cells [.int .i64 d,vg] true)
 have ba:=fun {h'} (g:Gro _ h')=>box_all (h:=h) (c:=[.int .i64 d,vg]) (r:=true) (h':=h') g (n:=2) rfl
 have bb:=fun {h'} (g:Gro _ h')=>box_ld (h:=h) (c:=[.int .i64 d,vg]) (r:=true) (h':=h') g (o:=0) (x := .int .i64 d) rfl
 have bc:=fun {h'} (g:Gro _ h')=>box_ld (h:=h) (c:=[.int .i64 d,vg]) (r:=true) (h':=h') g (o:=1) (x:=vg) rfl
 have hB:Bnd d.toNat (gS ls) 5040:=⟨l,fun p hp=>(hel.mem p).2 hp,by omega⟩
 obtain ⟨k,h2,e2,g2,_,hk⟩:=porder_spec hNo (hg.gro g1) d fun _=>hB
 have hkl:=hk hc l hel
 subst hkl
 rw [hc] at e2
 obtain ⟨n,rfl,hn,hl32,hls,hSv⟩:=group_of_ok hc
 have hp2:=((hg.gro g1).gro g2).pms hls
 obtain ⟨ic,h3,lab,ids,c,f3,C3,g3,hic⟩:=cnew_spec hNo hn hp2 hSv (by unfold gS; rw [List.length_map]; omega) hB
 have b1:=ba (Gro.refl _)
 have b2:=bb g2
 have b3:=bc g2
 have b4:=ba (g2.trans g3)
 simp (disch:=omega) only [RSe.down,b1,e2,neqF,gtrF,b2,b3,f3,b4,WDV_succ]
 have hIel:IsEl n (gS ls) l:=hel
 have hels:els c 0 (one n)=l:=(asc_els C3.ok (PV.one n)).unique hIel.asc fun q=>by
  rw [hIel.mem,mem_els C3.ok (PV.one n)]
  constructor
  ·rintro ⟨s,s1,s2,s3,rfl⟩
   rw [s1.mul_one]; exact (C3.iff s1).1 s3
  ·intro hq
   have hqv:=hq.pv hSv
   exact ⟨q,hqv,Fx.zero,(C3.iff hqv).2 hq,hqv.mul_one.symm⟩
 have hord:ordC c=l.length:=by rw [<- hels,length_els]
 have hmk:∀ tm:List AV,nth tm 10 = .int .i64 (l.length:Int)->evalA (.mkslice 1 8 [.int .i64 0] (.tmp 10) (.tmp 10)) tm h3=some (.cells (repl l.length [.int .i64 0]) true,.slice h3.next 0 l.length (.exact l.length)):=fun tm ht=>by
  rw [evalA_mkslV,ev_tmp,ht]; exact mkslV_nat (by omega)
 rw [WDs_a1 rfl (hmk _ rfl)]
 have g4:=Gro.push h3 (.cells (repl l.length [.int .i64 0]) true)
 obtain ⟨va,cb,h5,f5,g5,p5,fr5,el5⟩:=celements_spec hS (C3.at_.gro g4) hn C3.ok C3.cl (by omega)
 rw [hels] at p5
 have hq4:h5.get h3.next=some (.cells (repl l.length [.int .i64 0]) true):=by rw [g5.same _ (Nat.lt_succ_self _)]; exact AHeap.get_push_same h3 _
 have b5:=ba (((g2.trans g3).trans g4).trans g5)
 simp (disch:=omega) only [RSe.down,f5,WDE_some,checks,cond_true]
 rw [recheck_a rfl (hmk _ rfl) hq4,recheck_load b5 rfl]
 refine ⟨rfl,?_⟩
 have hvas:va.scalar=true:=SlAt.scalar p5.own.at
 have hbl : ∀ (tm : List AV) (hh : AHeap),nth tm 0 = .agg [.int .i64 (n : Int),vg]->nth tm 1=va->nth tm 2 = .slice h3.next 0 l.length (.exact l.length) ->
   evalQ (.build [.int .i64 0,.nils,.nils,.nils,.nils] [(0,(2,.tmp 0)),(2,(1,.tmp 1)),(4,(1,.tmp 2))]) tm hh=some (.agg [.int .i64 (n:Int),vg,va,.nils,.slice h3.next 0 l.length (.exact l.length)]):=fun tm hh t0 t1 t2=>by
  rw [evalQ_build]; simp only [fills,ev_tmp,t0,t1,t2,scalar_cells hvas]; rfl
 have hw:∀ {hh:AHeap} {tm:List AV} {r:List (AOper × Nat)} {K:List Fr} {Q:AX->St->Prop} {ps:List ((AHeap->Bool) × Nat)},WDs (lim otab.get I) ((⟨some 9,.box (.tmp 0),none⟩,0) :: r) ps K ⟨tm,hh⟩ Q ↔ WDA (lim otab.get I) (evalA (.box (.tmp 0)) tm hh) (some 9) r ps K tm hh Q:=WDs_a0 rfl
 simp (disch:=omega) only [RSe.down,lower,WDs_build]
 rw [hbl _ _ rfl rfl rfl]
 simp (disch:=omega) only [RSe.down,WDV_zero,hw,WDA_some]
 have q6:(h5.push (.cells [.int .i64 (n:Int),vg,va,.nils,.slice h3.next 0 l.length (.exact l.length)] true)).get h5.next=some (.cells [.int .i64 (n:Int),vg,va,.nils,.slice h3.next 0 l.length (.exact l.length)] true):=AHeap.get_push_same h5 _
 have hq6:(h5.push (.cells [.int .i64 (n:Int),vg,va,.nils,.slice h3.next 0 l.length (.exact l.length)] true)).get h3.next=some (.cells (tbl l.length fun _=>.int .i64 0) true):=by
  rw [AHeap.get_push_lt _ _ (show h3.next < h5.next from Nat.lt_of_lt_of_le (Nat.lt_succ_self _) g5.le),hq4,tbl_repl]
 have g6:=Gro.push h5 (.cells [.int .i64 (n:Int),vg,va,.nils,.slice h3.next 0 l.length (.exact l.length)] true)
 have x6:(h5.push (.cells [.int .i64 (n:Int),vg,va,.nils,.slice h3.next 0 l.length (.exact l.length)] true)).next=h5.next+1:=rfl
 have l2:loadV none (.ptr h5.next 2) (h5.push (.cells [.int .i64 (n:Int),vg,va,.nils,.slice h3.next 0 l.length (.exact l.length)] true))=some va:=loadV_get q6 rfl
 have lva:∀ {h':AHeap},lenV 1 va h'=some (.int .i64 (l.length:Int)):=fun {h'}=>p5.pms.len (h':=h')
 simp (disch:=omega) only [RSe.down,l2,lva]
 generalize (h5.push (.cells [.int .i64 (n:Int),vg,va,.nils,.slice h3.next 0 l.length (.exact l.length)] true))=hT at q6 hq6 g6 x6 l2 ⊢
 have hlt:h3.next < h5.next:=Nat.lt_of_lt_of_le (Nat.lt_succ_self _) g5.le
 have gT3:Gro h3 hT:=g4.trans (g5.trans g6)
 have CT:ChAt (fun j=>if j=h5.next \/ j=h3.next then 4 * n+1 else if 4 * n < lab j then 0 else lab j) hT n ic ids c :=
  C3.at_.low.other (F:=fun _=>False) gT3.chg (fun _ hf=>hf.elim) (fun j hj=>if_neg (by omega)) fun j hj=>by
   show (if j=h5.next \/ j=h3.next then 4 * n+1 else if 4 * n < lab j then 0 else lab j)=0
   rw [if_neg (by omega),C3.at_.new j (by omega)]; split <;> rfl
 generalize hlab:(fun j=>if j=h5.next \/ j=h3.next then 4 * n+1 else if 4 * n < lab j then 0 else lab j)=lab1 at CT
 have hlab1:∀ j,j=h5.next \/ j=h3.next->lvF lab1 n j:=fun j hj=>by
  have e:lab1 j=4 * n+1:=by rw [<- hlab]; exact if_pos hj
  exact ⟨by rw [e]; omega,by rw [e]; omega⟩
 have pT:=p5.gro g6
 have hpv:∀ {i:Nat} {p:Pm},l[i]?=some p->PV n p:=fun hi=>((hIel.mem _).1 (List.mem_of_getElem? hi)).pv hSv
 have stay:∀ {h':AHeap},Chg (fun j=>j=h5.next \/ j=h3.next) hT h'->PmsAt h' va l:=fun {h'} k=>by
  refine ⟨cb,pT.own.at.chg k fun j hj hf=>?_,pT.len,fun i a p ha hp=>(pT.el i a p ha hp).chg k fun j hj hf=>?_⟩
  ·have h1:=fr5 j hj
   have h2:=p5.own.lt hj
   rw [AHeap.next_push] at h1
   omega
  ·have h1:=el5 a (List.mem_of_getElem? ha) j hj
   have h2:=SlAt.oid_lt (p5.el i a p ha hp) hj
   rw [AHeap.next_push] at h1
   omega
 have idx:∀ {h':AHeap} {vp:AV} {p:Pm},Chg (fun j=>j=h5.next \/ j=h3.next) hT h'->∀ {h2:AHeap},Gro h' h2->PmAt h2 vp p->Gen n (gS ls) p->∃ h3',lim otab.get I (.fn 192) [.ptr ic 0,vp] h2=some (.tup [.int .i64 ((place l p:Nat):Int),.bool true],h3')/\Gro h2 h3':=fun {h'} {vp} {p} k {h2} g hv hp=>by
  have C':ChAt lab1 h2 n ic ids c:=(CT.other k hlab1 (fun _ _=>rfl) fun j hj=>CT.new j (Nat.le_trans k.le hj)).gro g
  have hm:p∈els c 0 (one n):=by rw [hels]; exact (hIel.mem p).2 hp
  obtain ⟨i,i1,i2⟩:=idx_els C3.ok (PV.one n) hm
  rw [hels] at i2
  have hpl:=hIel.asc.place_get i2
  have hlt:=(List.getElem?_eq_some_iff.1 i2).1
  rw [hpl]
  exact cindex_spec hNo C' hn C3.ok C3.cl hSv hB hv (hp.pv hSv) i1 (by omega)
 refine WK_loopJ (fun i s=>i <= l.length/\∃ y0 y1 y2 y3 y4 y5 y7 vm cm h',s=⟨[y0,y1,y2,y3,y4,y5,.ptr ic 0,y7,.int .i64 (i : Int),.ptr h5.next 0,.int .i64 (l.length : Int),va,.int .i64 (l.length : Int)],h'⟩/\Chg (fun j=>j=h5.next \/ j=h3.next) hT h'/\h'.get h5.next=some (.cells [.int .i64 (n : Int),vg,va,vm,.slice h3.next 0 l.length (.exact l.length)] true)/\PL h' vm cm ((rowsT l.length (op l)).take i)/\(∀ j,oid vm=some j->hT.next <= j)/\(∀ a∈cm, ∀ j,oid a=some j->hT.next <= j) /\
   h'.get h3.next=some (.cells (tbl l.length fun j=>if j < i then .int .i64 ((place l (inv (el l j)):Nat):Int) else .int .i64 0) true)) l.length
  ⟨Nat.zero_le _,_,_,_,_,_,_,_,.nils,[],hT,rfl,Chg.refl _,q6,PL.nil,(fun j hj=>by cases hj),(fun a ha=>by cases ha),by rw [hq6]; congr 2⟩ ?_
 rintro i hi _ ⟨_,y0,y1,y2,y3,y4,y5,y7,vm,cm,h',rfl,kC,hit,pm,frm,frc,hiv⟩ next
 by_cases hil:i < l.length
 ·obtain ⟨pi,hpi⟩:=get_some hil
  have hpiv:=hpv hpi
  have hpig:Gen n (gS ls) pi:=(hIel.mem pi).1 (List.mem_of_getElem? hpi)
  obtain ⟨i1,vp,i2,i3⟩:=(stay kC).get hpi
  have gR:=Gro.push h' (.cells (repl l.length [.int .i64 0]) true)
  have r0:(h'.push (.cells (repl l.length [.int .i64 0]) true)).get h'.next=some (.cells (tbl l.length fun _=>.int .i64 0) true):=by rw [AHeap.get_push_same,tbl_repl]
  have itlt:h5.next < h'.next:=Nat.lt_of_lt_of_le (show h5.next < hT.next by omega) kC.le
  have l2':loadV none (.ptr h5.next 2) (h'.push (.cells (repl l.length [.int .i64 0]) true))=some va:=loadV_get (by rw [AHeap.get_push_lt _ _ itlt]; exact hit) rfl
  simp (disch:=omega) only [RSe.down,lssT,i1,i2,mkslV_nat,l2',lva]
  refine WK_loopJ (fun k s=>k <= l.length/\∃ z1 z2 h2,s=⟨[.int .i64 (k:Int),z1,z2,vp,.slice h'.next 0 l.length (.exact l.length),va,.ptr ic 0,.int .i64 (l.length:Int),.int .i64 (i:Int),.ptr h5.next 0,.int .i64 (l.length:Int),va,.int .i64 (l.length:Int)],h2⟩/\Gro h' h2/\h'.next < h2.next/\h2.get h'.next=some (.cells (tbl l.length fun j=>if j < k then .int .i64 ((op l i j:Nat):Int) else .int .i64 0) true)) l.length
   ⟨Nat.zero_le _,_,_,_,rfl,gR,Nat.lt_succ_self _,by rw [r0]; congr 2⟩ ?_
  rintro k hk _ ⟨_,z1,z2,h2',rfl,gk,hlk,hrow⟩ next2
  by_cases hkl:k < l.length
  ·obtain ⟨pk,hpk⟩:=get_some hkl
   have hpkg:Gen n (gS ls) pk:=(hIel.mem pk).1 (List.mem_of_getElem? hpk)
   obtain ⟨k1,vk,k2,k3⟩:=(PmsAt.gro' (stay kC) gk).get hpk
   obtain ⟨v3,h6,f6,n6⟩:=bmul hNo (i3.gro gk) k3 hpiv (hpv hpk) (by omega)
   obtain ⟨h7,f7,g7⟩:=idx kC (gk.trans n6.gro) n6.at_ (hpig.mul' hSv hpkg)
   have hop:place l (mul pi pk)=op l i k:=by unfold op; rw [el_get hpi,el_get hpk]
   rw [hop] at f7
   have hrow7:h7.get h'.next=some (.cells (tbl l.length fun j=>if j < k then .int .i64 ((op l i j:Nat):Int) else .int .i64 0) true):=by rw [(n6.gro.trans g7).same _ hlk]; exact hrow
   have e7:=stV_tbl (x := .int .i64 ((op l i k:Nat):Int)) hrow7 hkl rfl
   simp (disch:=omega) only [RSe.down,lssT,k1,k2,f6,f7,iaddrS,e7,add1N]
   refine next2 hkl _ ⟨by omega,_,_,_,rfl,(gk.trans (n6.gro.trans g7)).set (Nat.le_refl _) _,?_,?_⟩
   ·rw [AHeap.next_set]; exact Nat.lt_of_lt_of_le hlk (n6.gro.trans g7).le
   ·rw [AHeap.get_set_same]
    congr 2
    refine tbl_congr fun j _=>?_
    by_cases ej:j=k
    ·rw [if_pos ej,if_pos (by omega),ej]
    ·rw [if_neg ej]
     by_cases ej2:j < k
     ·rw [if_pos ej2,if_pos (by omega)]
     ·rw [if_neg ej2,if_neg (by omega)]
  ·obtain rfl:l.length=k:=by omega
   have hgi:inv (el l i)=inv pi:=by rw [el_get hpi]
   have erow:(tbl l.length fun j=>if j < l.length then AV.int .i64 ((op l i j:Nat):Int) else .int .i64 0)=pc ((List.range l.length).map (op l i)):=by
    rw [tbl_pc (row_len (N:=l.length) (f:=op l i))]
    exact tbl_congr fun j hj=>by rw [if_pos hj,row_ap hj]
   rw [erow] at hrow
   have prow:PmAt h2' (.slice h'.next 0 l.length (.exact l.length)) ((List.range l.length).map (op l i)):=tab_at hlk hrow (by rw [pc_len,row_len]) (Nat.le_refl _)
   have hit2:h2'.get h5.next=some (.cells [.int .i64 (n:Int),vg,va,vm,.slice h3.next 0 l.length (.exact l.length)] true):=by rw [gk.same _ itlt]; exact hit
   obtain ⟨v8,h8,f8,n8⟩:=binv hNo (i3.gro gk) hpiv (by omega)
   obtain ⟨h9,f9,g9⟩:=idx kC (gk.trans n8.gro) n8.at_ (hpig.inv hSv)
   have ivlt:h3.next < h'.next:=Nat.lt_of_lt_of_le (show h3.next < hT.next by omega) kC.le
   have L4:loadV none (.ptr h5.next 4) h2'=some (.slice h3.next 0 l.length (.exact l.length)):=loadV_get hit2 rfl
   have it8:h5.next < h2'.next:=Nat.lt_of_lt_of_le itlt gk.le
   have L4b:loadV none (.ptr h5.next 4) h8=some (.slice h3.next 0 l.length (.exact l.length)):=loadV_get (by rw [n8.gro.same _ it8]; exact hit2) rfl
   have L4c:loadV none (.ptr h5.next 4) h9=some (.slice h3.next 0 l.length (.exact l.length)):=loadV_get (by rw [(n8.gro.trans g9).same _ it8]; exact hit2) rfl
   have g29:=gk.trans (n8.gro.trans g9)
   have hiv9:h9.get h3.next=some (.cells (tbl l.length fun j=>if j < i then .int .i64 ((place l (inv (el l j)):Nat):Int) else .int .i64 0) true):=by rw [g29.same _ ivlt]; exact hiv
   have e9:=stV_tbl (x := .int .i64 ((place l (inv pi):Nat):Int)) hiv9 hil rfl
   have kset:Chg (fun j=>j=h3.next) h9 (h9.set h3.next (.cells (tbl l.length fun j=>if j=i then .int .i64 ((place l (inv pi):Nat):Int) else if j < i then .int .i64 ((place l (inv (el l j)):Nat):Int) else .int .i64 0) true)):=Chg.set (F:=fun j=>j=h3.next) h9 rfl _
   have hAiv:(h9.set h3.next (.cells (tbl l.length fun j=>if j=i then .int .i64 ((place l (inv pi):Nat):Int) else if j < i then .int .i64 ((place l (inv (el l j)):Nat):Int) else .int .i64 0) true)).get h3.next=some (.cells (tbl l.length fun j=>if j=i then .int .i64 ((place l (inv pi):Nat):Int) else if j < i then .int .i64 ((place l (inv (el l j)):Nat):Int) else .int .i64 0) true):=AHeap.get_set_same _ _ _
   generalize (h9.set h3.next (.cells (tbl l.length fun j=>if j=i then .int .i64 ((place l (inv pi):Nat):Int) else if j < i then .int .i64 ((place l (inv (el l j)):Nat):Int) else .int .i64 0) true))=hA at e9 kset hAiv
   have hT3:h3.next < hT.next:=by omega
   have hitA:hA.get h5.next=some (.cells [.int .i64 (n:Int),vg,va,vm,.slice h3.next 0 l.length (.exact l.length)] true):=by
    rw [kset.same _ (Nat.lt_of_lt_of_le it8 (n8.gro.trans g9).le) (by omega),(n8.gro.trans g9).same _ it8]; exact hit2
   have pmA:PL hA vm cm ((rowsT l.length (op l)).take i):=by
    have p9:=pm.gro g29
    exact ⟨p9.own.chg kset fun j hj e=>by have:=frm j hj; omega,p9.len,fun i' a p ha hp=>(p9.el i' a p ha hp).chg kset fun j hj e=>by have:=frc a (List.mem_of_getElem? ha) j hj; omega⟩
   have hTh':=kC.le
   have prowA:PmAt hA (.slice h'.next 0 l.length (.exact l.length)) ((List.range l.length).map (op l i)):=(prow.gro (n8.gro.trans g9)).chg kset fun j hj e=>by cases hj; omega
   obtain ⟨eb,b',hB,ea,pB,cB,jB,xB⟩:=pmA.app prowA (by rw [List.length_take,rowsT_len]; omega)
   have hle9:h'.next <= hA.next:=Nat.le_trans g29.le kset.le
   have hitB:hB.get h5.next=some (.cells [.int .i64 (n:Int),vg,va,vm,.slice h3.next 0 l.length (.exact l.length)] true):=by
    rw [cB.same _ (by omega) fun hj=>by have:=frm _ hj; omega]; exact hitA
   have lA3:loadV none (.ptr h5.next 3) hA=some vm:=loadV_get hitA rfl
   have bs:b'.scalar=true:=SlAt.scalar pB.own.at
   have eC:stV 1 (.ptr h5.next 3) b' hB=some (aundef,hB.set h5.next (.cells [.int .i64 (n:Int),vg,va,b',.slice h3.next 0 l.length (.exact l.length)] true)):=stV_at (k:=3) (x:=b') hitB (by simp) bs
   have kC2:Chg (fun j=>j=h5.next) hB (hB.set h5.next (.cells [.int .i64 (n:Int),vg,va,b',.slice h3.next 0 l.length (.exact l.length)] true)):=Chg.set (F:=fun j=>j=h5.next) hB rfl _
   have frc2:∀ a∈cm ++ [AV.slice h'.next 0 l.length (.exact l.length)], ∀ j,oid a=some j->hT.next <= j:=fun a ha j hj=>by
    rcases List.mem_append.1 ha with q | q
    ·exact frc a q j hj
    ·rw [List.mem_singleton.1 q] at hj; cases hj; exact hTh'
   simp (disch:=omega) only [RSe.down,lssF,L4,WDV_succ,f8,f9,WDE_some,checks,lower,recheck,AOp.cls,AV.beq_refl,cond_true,true_and,L4b,L4c,WDV_zero,iaddrS,e9,WDE_none,lA3,eb,ea,eC,add1N]
   refine next hil _ ⟨by omega,_,_,_,_,_,_,_,b',cm ++ [.slice h'.next 0 l.length (.exact l.length)],_,rfl,?_,AHeap.get_set_same _ _ _,?_,fun j hj=>?_,frc2,?_⟩
   ·exact (((kC.trans (g29.chg (F:=fun _=>False)) fun _ _ hf=>hf.elim).trans kset fun j _ hj=>.inr hj).trans cB fun j hj hf=>by have:=frm j hf; omega).trans kC2 fun j _ hj=>.inl hj
   ·rw [take_succ_get (rowsT_get hil)]
    exact ⟨pB.own.chg kC2 fun j hj e=>by rw [jB] at hj; cases hj; omega,pB.len,fun i' a p ha hp=>(pB.el i' a p ha hp).chg kC2 fun j hj e=>by have:=frc2 a (List.mem_of_getElem? ha) j hj; omega⟩
   ·rw [jB] at hj; cases hj; omega
   ·rw [AHeap.get_set_ne _ _ (by omega),cB.same _ (by omega) fun hj=>by have:=frm _ hj; omega,hAiv]
    congr 2
    refine tbl_congr fun j _=>?_
    by_cases ej:j=i
    ·rw [if_pos ej,if_pos (by omega),ej,hgi]
    ·rw [if_neg ej]
     by_cases ej2:j < i
     ·rw [if_pos ej2,if_pos (by omega)]
     ·rw [if_neg ej2,if_neg (by omega)]
 ·obtain rfl:l.length=i:=by omega
  simp (disch:=omega) only [RSe.down,lssF]
  rw [List.take_of_length_le (by rw [rowsT_len]; exact Nat.le_refl _)] at pm
  have einv:(tbl l.length fun j=>if j < l.length then AV.int .i64 ((place l (inv (el l j)):Nat):Int) else .int .i64 0)=pc ((List.range l.length).map fun i=>place l (inv (el l i))):=by
   rw [tbl_pc (row_len (N:=l.length) (f:=fun i=>place l (inv (el l i))))]
   exact tbl_congr fun j hj=>by rw [if_pos hj,row_ap hj]
  rw [einv] at hiv
  have itlt:h5.next < h'.next:=Nat.lt_of_lt_of_le (show h5.next < hT.next by omega) kC.le
  have gh3:Gro h h3:=g1.trans (g2.trans g3)
  refine ⟨(fun i hi=>by cases hi),_,rfl,h5.next,rfl,⟨itlt,⟨va,loadV_get hit rfl,stay kC⟩,⟨vm,loadV_get hit rfl,pm.pms⟩,⟨_,loadV_get hit rfl,tab_at (by omega) hiv (by rw [pc_len,row_len]) (Nat.le_refl _)⟩,?_⟩,(gh3.trans gT3).chg_new kC fun j hj=>?_⟩
  ·show (match cellsOf h' h5.next with | some c=>fit (some 2) 0 c | none=>none)=_
   rw [cellsOf_get hit]; rfl
  ·have:=gh3.le
   rcases hj with e | e
   ·omega
   ·omega
end
end Go.AM
namespace Go.AM
open Go Go.GT
theorem andNot_u64 {e:EqK} (x y:Nat) (hx:x < 18446744073709551616) (hy:y < 18446744073709551616):bin .andNot e (.int .u64 (x:Int)) (.int .u64 (y:Int))=some (.int .u64 ((x &&& (18446744073709551616 - (y+1)):Nat):Int)):=by
 have kx:kmod .u64 (x:Int)=x:=by show ((x:Int) % 18446744073709551616).toNat=x; omega
 have ky:kmod .u64 (y:Int)=y:=by show ((y:Int) % 18446744073709551616).toNat=y; omega
 show some (AV.int .u64 (awrap .u64 ((Nat.land (kmod .u64 (x:Int)) (kmask .u64 - kmod .u64 (y:Int)):Nat):Int)))=_
 rw [kx,ky]
 have hm:kmask .u64 - y=18446744073709551616 - (y+1):=by show 18446744073709551615 - y=_; omega
 rw [hm]
 have hl:x &&& (18446744073709551616 - (y+1)) <= x:=Nat.and_le_left
 show some (AV.int .u64 (((x &&& (18446744073709551616 - (y+1)):Nat):Int) % 18446744073709551616))=_
 rw [Int.emod_eq_of_lt (by omega) (by omega)]
theorem sub_bits {x y:Nat} (hx:x < 18446744073709551616) (hy:y < 18446744073709551616):x &&& (18446744073709551616 - (y+1))=0 ↔ ∀ i,x.testBit i=true->y.testBit i=true:=by
 have ht:∀ i,(18446744073709551616 - (y+1)).testBit i=(decide (i < 64) && !y.testBit i):=fun i=>Nat.testBit_two_pow_sub_succ (n:=64) hy i
 constructor
 ·intro h i hi
  have h1:=congrArg (fun z=>z.testBit i) h
  simp only [Nat.testBit_and,hi,ht,Bool.true_and,Nat.zero_testBit] at h1
  have h64:i < 64:=by
   refine Nat.lt_of_not_le fun hge=>?_
   rw [Nat.testBit_lt_two_pow (Nat.lt_of_lt_of_le hx (show 2 ^ 64 <= 2 ^ i from Nat.pow_le_pow_right (by decide) hge))] at hi
   cases hi
  rw [decide_eq_true h64,Bool.true_and] at h1
  simpa using h1
 ·intro h
  refine Nat.eq_of_testBit_eq fun i=>?_
  rw [Nat.testBit_and,ht,Nat.zero_testBit]
  cases e:x.testBit i with
  | false=>rfl
  | true=>rw [h i e]; simp
section
variable {I:Oracle} (hNo:NoI I) {h:AHeap}
include hNo
theorem in_bits {a b:Nat} (ha:a < 18446744073709551616) (hb:b < 18446744073709551616):∃ t h',lim otab.get I (.fn 104) [sv a 0,sv b 0] h=some (.bool t,h')/\Gro h h'/\(t=true ↔ ∀ i,a.testBit i=true->b.testBit i=true):=by
 refine (lim_walk_ex (T:=otab.get) (I:=I) (f:=104) (fn:=of104) rfl (a:=[sv a 0,sv b 0]) (h:=h) (P:=fun v h'=>∃ t,v = .bool t/\Gro h h'/\(t=true ↔ ∀ i,a.testBit i=true->b.testBit i=true)) (hNo.at _ _ (by decide) (by decide) (by decide)) ?_) |> fun ⟨v,h',e,t,q1,q2⟩=>⟨t,h',by rw [e,q1],q2⟩
 show WK _ _ [] ⟨[.agg [.int .u64 (a:Int),.int .u64 ((0:Nat):Int)],.agg [.int .u64 (b:Int),.int .u64 ((0:Nat):Int)],aundef,aundef],h⟩ _
 dsimp only [of104,Z.t,Z.f,Z.i,Z.q,Z.m,Z.l,Z.b,Z.c,Z.w]
 have hca:(AV.agg [.int .u64 (a:Int),.int .u64 ((0:Nat):Int)]).cells=[.int .u64 (a:Int),.int .u64 ((0:Nat):Int)]:=rfl
 have hcb:(AV.agg [.int .u64 (b:Int),.int .u64 ((0:Nat):Int)]).cells=[.int .u64 (b:Int),.int .u64 ((0:Nat):Int)]:=rfl
 have g2:Gro h ((h.push (.cells [.int .u64 (a:Int),.int .u64 ((0:Nat):Int)] true)).push (.cells [.int .u64 (b:Int),.int .u64 ((0:Nat):Int)] true)):=(Gro.push h _).trans (Gro.push _ _)
 have r0:((h.push (.cells [.int .u64 (a:Int),.int .u64 ((0:Nat):Int)] true)).push (.cells [.int .u64 (b:Int),.int .u64 ((0:Nat):Int)] true)).get h.next=some (.cells [.int .u64 (a:Int),.int .u64 ((0:Nat):Int)] true):=by
  rw [AHeap.get_push_lt _ _ (show h.next < h.next+1 by omega),AHeap.get_push_same]
 have r1:((h.push (.cells [.int .u64 (a:Int),.int .u64 ((0:Nat):Int)] true)).push (.cells [.int .u64 (b:Int),.int .u64 ((0:Nat):Int)] true)).get (h.next+1)=some (.cells [.int .u64 (b:Int),.int .u64 ((0:Nat):Int)] true):=AHeap.get_push_same (h.push _) _
 simp (disch:=omega) only [RSe.down,hca,hcb,AHeap.next_push]
 generalize ((h.push (.cells [.int .u64 (a:Int),.int .u64 ((0:Nat):Int)] true)).push (.cells [.int .u64 (b:Int),.int .u64 ((0:Nat):Int)] true))=h2 at g2 r0 r1 ⊢
 have la0:loadV none (.ptr h.next 0) h2=some (.int .u64 (a:Int)):=loadV_get r0 rfl
 have la1:loadV none (.ptr h.next 1) h2=some (.int .u64 ((0:Nat):Int)):=loadV_get r0 rfl
 have lb0:loadV none (.ptr (h.next+1) 0) h2=some (.int .u64 (b:Int)):=loadV_get r1 rfl
 have lb1:loadV none (.ptr (h.next+1) 1) h2=some (.int .u64 ((0:Nat):Int)):=loadV_get r1 rfl
 have k0:=andNot_u64 (e := .no) a b ha hb
 have k1:bin .andNot .no (.int .u64 ((0:Nat):Int)) (.int .u64 ((0:Nat):Int))=some (.int .u64 ((0:Nat):Int)):=by
  have:=andNot_u64 (e := .no) 0 0 (by decide) (by decide)
  rwa [Nat.zero_and] at this
 have ia:∀ (tm:List AV) (hh:AHeap) (x:AOpd) (i:Nat),ev tm x = .ptr i 0->evalQ (.iaddr (some 2) 1 x (.lit (.int .i64 0))) tm hh=some (.ptr i 0):=fun tm hh x i hx=>iaddrA (k:=0) (q := .i64) hx rfl (by decide)
 have ib:∀ (tm:List AV) (hh:AHeap) (x:AOpd) (i:Nat),ev tm x = .ptr i 0->evalQ (.iaddr (some 2) 1 x (.lit (.int .i64 1))) tm hh=some (.ptr i 1):=fun tm hh x i hx=>iaddrA (k:=1) (q := .i64) hx rfl (by decide)
 rw [ia _ _ _ _ rfl]
 simp (disch:=omega) only [RSe.down,la0]
 rw [ia _ _ _ _ rfl]
 have hsb:=sub_bits ha hb
 by_cases e:a &&& (18446744073709551616 - (b+1))=0
 ·simp (disch:=omega) only [RSe.down,lb0,k0,eqlT (show ((a &&& (18446744073709551616 - (b+1)):Nat):Int)=0 by rw [e]; rfl)]
  rw [ib _ _ _ _ rfl]
  simp (disch:=omega) only [RSe.down,la1]
  rw [ib _ _ _ _ rfl]
  simp (disch:=omega) only [RSe.down,lb1,k1,eqlT (show (((0:Nat):Int))=0 from rfl)]
  exact ⟨(fun i hi=>by cases hi),_,rfl,true,rfl,g2,⟨fun _=>hsb.1 e,fun _=>rfl⟩⟩
 ·simp (disch:=omega) only [RSe.down,lb0,k0,eqlF (show ((a &&& (18446744073709551616 - (b+1)):Nat):Int) ≠ 0 by omega)]
  exact ⟨(fun i hi=>by cases hi),_,rfl,false,rfl,g2,⟨fun hh=>absurd hh Bool.false_ne_true,fun hh=>absurd (hsb.2 hh) e⟩⟩
end
end Go.AM
namespace Go.AM
open Go Go.GT
def badN (N:Nat) (i:Int):Bool:=decide (i < 0 \/ (N:Int) <= i)
section
variable {I:Oracle} (hNo:NoI I) {h:AHeap}
include hNo
theorem closed1_spec {pb it N : Nat} {va : AV} (h1 : loadV none (.ptr pb 0) h=some (.ptr it 0)) (h2 : loadV none (.ptr it 2) h=some va) (h3 : ∀ h' : AHeap,lenV 1 va h'=some (.int .i64 (N : Int))) (i : Int) :
  lim otab.get I (.fn 182) [.int .i64 i,.ptr pb 0] h=some (.bool (badN N i),h):=by
 refine lim_walk (fn:=of182) rfl (hNo.at _ _ (by decide) (by decide) (by decide)) ?_
 show WK _ _ [] ⟨[.int .i64 i,.ptr pb 0,aundef],h⟩ _
 dsimp only [of182,Z.t,Z.f,Z.i,Z.q,Z.m,Z.l,Z.b,Z.c,Z.w]
 unfold badN
 by_cases e:i < 0
 ·simp (disch:=omega) only [RSe.down]
  refine ⟨(fun i hi=>by cases hi),?_,trivial⟩
  rw [decide_eq_true (.inl e)]; rfl
 ·by_cases e2:(N:Int) <= i
  ·simp (disch:=omega) only [RSe.down,h1,h2,h3]
   refine ⟨(fun i hi=>by cases hi),?_,trivial⟩
   rw [decide_eq_true (.inr e2)]; rfl
  ·simp (disch:=omega) only [RSe.down,h1,h2,h3]
   refine ⟨(fun i hi=>by cases hi),?_,trivial⟩
   rw [decide_eq_false (by omega)]; rfl
theorem contains1_spec {pb it N : Nat} {va vl : AV} {ms : List Int} (h1 : loadV none (.ptr pb 0) h=some (.ptr it 0)) (h2 : loadV none (.ptr it 2) h=some va) (h3 : ∀ h' : AHeap,lenV 1 va h'=some (.int .i64 (N : Int))) (hv : IAt h vl ms) (hl : ms.length <= 1000000) :
  lim otab.get I (.fn 181) [vl,.fn (.func 182) [] [.ptr pb 0]] h=some (.bool (ms.any (badN N)),h):=by
 have key:∃ r:Int,lim otab.get I (.fn 224) [vl,.fn (.func 182) [] [.ptr pb 0]] h=some (.int .i64 r,h)/\(0 <= r ↔ ms.any (badN N)=true):=by
  refine (lim_walk_ex (T:=otab.get) (I:=I) (f:=224) (fn:=of224) rfl (a:=[vl,.fn (.func 182) [] [.ptr pb 0]]) (h:=h) (P:=fun v h'=>∃ r:Int,v = .int .i64 r/\h'=h/\(0 <= r ↔ ms.any (badN N)=true)) (hNo.at _ _ (by decide) (by decide) (by decide)) ?_) |> fun ⟨v,h',e,r,q1,q2,q3⟩=>⟨r,by rw [e,q1,q2],q3⟩
  show WK _ _ [] ⟨[vl,.fn (.func 182) [] [.ptr pb 0],aundef,aundef,aundef],h⟩ _
  dsimp only [of224,Z.t,Z.f,Z.i,Z.q,Z.m,Z.l,Z.b,Z.c,Z.w]
  simp (disch:=omega) only [RSe.down,hv.len]
  refine WK_loopJ (fun k s=>(∃ y3,s=⟨[vl,.fn (.func 182) [] [.ptr pb 0],.int .i64 (k:Int),y3,.int .i64 (ms.length:Int)],h⟩)/\(ms.take k).any (badN N)=false) ms.length ⟨⟨_,rfl⟩,rfl⟩ ?_
  rintro k hk _ ⟨⟨y3,rfl⟩,he⟩ next
  by_cases hkn:k < ms.length
  ·obtain ⟨i,hi⟩:=get_some hkn
   have i1:=hv.iaddr (q := .i64) hkn
   have i2:=hv.load hi
   have f:=closed1_spec hNo h1 h2 h3 i
   have f':lim otab.get I (.fn 182) ([] ++ [AV.int .i64 i] ++ [.ptr pb 0]) h=some (.bool (badN N i),h):=f
   have ec:∀ tm:List AV,nth tm 1 = .fn (.func 182) [] [.ptr pb 0]->nth tm 3 = .int .i64 i->evalE (.call (.tmp 1) [.tmp 3]) (lim otab.get I) tm h=some (.bool (badN N i),h):=fun tm t1 t3=>by
    rw [evalE_callV (g:=182) (fs:=[]) (cs:=[.ptr pb 0]) (show ev tm (.tmp 1)=_ by rw [ev_tmp]; exact t1)]
    have:evs tm [.tmp 3]=[AV.int .i64 i]:=by show [ev tm (.tmp 3)]=_; rw [ev_tmp,t3]
    rw [this]; exact f'
   simp (disch:=omega) only [RSe.down,i1,i2]
   rw [ec _ rfl rfl]
   cases eb:badN N i with
   | true =>
    simp (disch:=omega) only [RSe.down]
    refine ⟨(fun i hi=>by cases hi),_,rfl,k,rfl,trivial,⟨fun _=>?_,fun _=>by omega⟩⟩
    exact List.any_eq_true.2 ⟨i,List.mem_of_getElem? hi,eb⟩
   | false =>
    simp (disch:=omega) only [RSe.down,add1N]
    refine next hkn _ ⟨⟨_,rfl⟩,?_⟩
    rw [take_succ_get hi,List.any_append,he]; simp [eb]
  ·obtain rfl:k=ms.length:=by omega
   simp (disch:=omega) only [RSe.down]
   rw [List.take_length] at he
   exact ⟨(fun i hi=>by cases hi),_,rfl, -1,rfl,trivial,⟨fun hh=>absurd hh (by decide),fun hh=>by rw [he] at hh; cases hh⟩⟩
 obtain ⟨r,f,hr⟩:=key
 refine lim_walk (fn:=of181) rfl (hNo.at _ _ (by decide) (by decide) (by decide)) ?_
 show WK _ _ [] ⟨[vl,.fn (.func 182) [] [.ptr pb 0],aundef],h⟩ _
 dsimp only [of181,Z.t,Z.f,Z.i,Z.q,Z.m,Z.l,Z.b,Z.c,Z.w]
 by_cases e:0 <= r
 ·simp (disch:=omega) only [RSe.down,f]
  refine ⟨(fun i hi=>by cases hi),?_,trivial⟩
  rw [hr.1 e]; rfl
 ·simp (disch:=omega) only [RSe.down,f]
  refine ⟨(fun i hi=>by cases hi),?_,trivial⟩
  have:ms.any (badN N)=false:=by
   cases eb:ms.any (badN N) with
   | false=>rfl
   | true=>exact absurd (hr.2 eb) e
  rw [this]; rfl
end
end Go.AM
namespace Go.AM
open Go Go.GT
theorem IAt.nats {h:AHeap} {v:AV} {ms:List Int} (s:IAt h v ms) {N:Nat} (hb:ms.any (badN N)=false):PmAt h v (ms.map Int.toNat)/\∀ x∈ms.map Int.toNat,x < N:=by
 have hr:∀ i∈ms,0 <= i/\i < (N:Int):=fun i hi=>by
  have h1:badN N i=false:=by
   cases e:badN N i with
   | false=>rfl
   | true=>rw [List.any_eq_true.2 ⟨i,hi,e⟩] at hb; cases hb
  have:=of_decide_eq_false h1
  omega
 refine ⟨?_,fun x hx=>?_⟩
 ·have e : pc (ms.map Int.toNat)=ic ms := by
   unfold pc ic
   rw [List.map_map]
   exact List.map_congr_left fun i hi=>by
    have:=(hr i hi).1
    show AV.int .i64 ((i.toNat:Nat):Int) = .int .i64 i
    rw [Int.toNat_of_nonneg this]
  show SlAt h v (pc _)
  rw [e]; exact s
 ·obtain ⟨i,hi,rfl⟩:=List.mem_map.1 hx
  have:=hr i hi
  omega
theorem result_tct {tm:List AV} {h:AHeap} {a b k i o:Nat} {n:Option Nat} {v:AV} (e:nth tm k = .ptr i o) (hl:loadV n (.ptr i o) h=some v):result [.tmp a,.cell k n,.tmp b] tm h=some (.tup [nth tm a,v,nth tm b]):=by
 have h1:resOf tm h (.cell k n)=some v:=by
  show (match nth tm k with | .ptr i o=>(match cellsOf h i with | some c=>fit n o c | none=>none) | _=>none)=_
  rw [e]; exact hl
 have h2:resOfs tm h [.tmp a,.cell k n,.tmp b]=some [nth tm a,v,nth tm b]:=by
  show (match (some (nth tm a)),(match resOf tm h (.cell k n),(some [nth tm b]:Option (List AV)) with | some v,some vs=>some (v :: vs) | _,_=>none) with | some v,some vs=>some (v :: vs) | _,_=>none)=_
  rw [h1]
 unfold result
 rw [h2]
theorem TabAt.gro {h h':AHeap} {it:Nat} {d:Int} {vg:AV} {l:List Pm} (T:TabAt h it d vg l) (g:Gro h h'):TabAt h' it d vg l:=by
 have ld:∀ {o:Nat} {v:AV},loadV none (.ptr it o) h=some v->loadV none (.ptr it o) h'=some v:=fun e=>by
  rw [loadV_same (F:=fun _=>False) g.chg T.lt (fun hf=>hf)]; exact e
 obtain ⟨va,a1,a2⟩:=T.all
 obtain ⟨vm,m1,m2⟩:=T.mul
 obtain ⟨vi,i1,i2⟩:=T.inv
 refine ⟨Nat.lt_of_lt_of_le T.lt g.le,⟨va,ld a1,PmsAt.gro' a2 g⟩,⟨vm,ld m1,PmsAt.gro' m2 g⟩,⟨vi,ld i1,i2.gro g⟩,?_⟩
 have hg:=T.grp
 show (match cellsOf h' it with | some c=>fit (some 2) 0 c | none=>none)=_
 rw [g.cells T.lt]; exact hg
end Go.AM
namespace Go.AM
open Go Go.GT
theorem bl_clo {N w:Nat} {m:Nat->Nat->Nat} {S:List Nat} (hT:TG N m) (hN:N <= 64) (hS:∀ s∈S,s < N) (h:∀ y,w.testBit y=true ↔ GenT m S y):bl 128 (fun i=>if i < 64 then w.testBit i else (0:Nat).testBit (i - 64))=clo N m S:=by
 refine ascN_unique bl_asc (clo_sub hT hS).asc fun x=>?_
 rw [mem_bl,mem_clo hT hS]
 constructor
 ·rintro ⟨_,e⟩
  by_cases h64:x < 64
  ·rw [if_pos h64] at e; exact (h x).1 e
  ·rw [if_neg h64,Nat.zero_testBit] at e; cases e
 ·intro hg
  have:=hg.lt hT hS
  refine ⟨by omega,?_⟩
  rw [if_pos (by omega)]; exact (h x).2 hg
end Go.AM
namespace Go.AM
open Go Go.GT
section
variable {I:Oracle} (hNo:NoI I) {h:AHeap}
include hNo
theorem moved_spec {it N a x : Nat} {m : Nat->Nat->Nat} {iv : Nat->Nat} {vm vi : AV} (hit : it < h.next) (hvm : loadV none (.ptr it 3) h=some vm) (ht : PmsAt h vm (rowsT N m)) (hvi : loadV none (.ptr it 4) h=some vi) (hi : PmAt h vi ((List.range N).map iv)) (hiv : ∀ i,i < N->iv i < N) (hT : TG N m) (hN : N <= 64) (ha : a < 18446744073709551616) (haN : ∀ i,a.testBit i=true->i < N) (hx : x < N) :
  ∃ w h',lim otab.get I (.fn 107) [.ptr it 0,sv a 0,.int .i64 (x:Int)] h=some (sv w 0,h')/\Gro h h'/\w < 18446744073709551616/\∀ y,w.testBit y=true ↔ ∃ k,a.testBit k=true/\m (m (iv x) k) x=y:=by
 refine (lim_walk_ex (T:=otab.get) (I:=I) (f:=107) (fn:=of107) rfl (a:=[.ptr it 0,sv a 0,.int .i64 (x:Int)]) (h:=h) (P:=fun v h'=>∃ w,v=sv w 0/\Gro h h'/\w < 18446744073709551616/\∀ y,w.testBit y=true ↔ ∃ k,a.testBit k=true/\m (m (iv x) k) x=y) (hNo.at _ _ (by decide) (by decide) (by decide)) ?_) |> fun ⟨v,h',e,w,q1,q2⟩=>⟨w,h',by rw [e,q1],q2⟩
 show WK _ _ [] ⟨[.ptr it 0,.agg [.int .u64 (a:Int),.int .u64 ((0:Nat):Int)],.int .i64 (x:Int),aundef,aundef,aundef,aundef,aundef,aundef,aundef,aundef,aundef],h⟩ _
 dsimp only [of107,Z.t,Z.f,Z.i,Z.q,Z.m,Z.l,Z.b,Z.c,Z.w]
 have hcl:(AV.agg [.int .u64 (a:Int),.int .u64 ((0:Nat):Int)]).cells=[.int .u64 (a:Int),.int .u64 ((0:Nat):Int)]:=rfl
 have r0:(((h.push (.cells [.int .u64 (a:Int),.int .u64 ((0:Nat):Int)] true)).push (.cells [.int .u64 0,.int .u64 0] true)).push (.cells [.int .u64 0,.int .u64 0] true)).get h.next=some (.cells [.int .u64 (a:Int),.int .u64 ((0:Nat):Int)] true):=by
  rw [AHeap.get_push_lt _ _ (show h.next < h.next+2 by omega),AHeap.get_push_lt _ _ (show h.next < h.next+1 by omega),AHeap.get_push_same]
 have r1:(((h.push (.cells [.int .u64 (a:Int),.int .u64 ((0:Nat):Int)] true)).push (.cells [.int .u64 0,.int .u64 0] true)).push (.cells [.int .u64 0,.int .u64 0] true)).get (h.next+1)=some (.cells [.int .u64 0,.int .u64 0] true):=by
  rw [AHeap.get_push_lt _ _ (show h.next+1 < h.next+2 by omega)]; exact AHeap.get_push_same (h.push _) _
 have r2:(((h.push (.cells [.int .u64 (a:Int),.int .u64 ((0:Nat):Int)] true)).push (.cells [.int .u64 0,.int .u64 0] true)).push (.cells [.int .u64 0,.int .u64 0] true)).get (h.next+2)=some (.cells [.int .u64 0,.int .u64 0] true):=AHeap.get_push_same ((h.push _).push _) _
 have g2:Gro h (((h.push (.cells [.int .u64 (a:Int),.int .u64 ((0:Nat):Int)] true)).push (.cells [.int .u64 0,.int .u64 0] true)).push (.cells [.int .u64 0,.int .u64 0] true)):=(Gro.push h _).trans ((Gro.push _ _).trans (Gro.push _ _))
 have x2:(((h.push (.cells [.int .u64 (a:Int),.int .u64 ((0:Nat):Int)] true)).push (.cells [.int .u64 0,.int .u64 0] true)).push (.cells [.int .u64 0,.int .u64 0] true)).next=h.next+3:=rfl
 have hb0:∀ (tm:List AV) (hh:AHeap),evalQ (.build [.int .u64 0,.int .u64 0] []) tm hh=some (.agg [.int .u64 0,.int .u64 0]):=fun _ _=>rfl
 simp (disch:=omega) only [RSe.down,hcl,AHeap.next_push,hb0]
 generalize (((h.push (.cells [.int .u64 (a:Int),.int .u64 ((0:Nat):Int)] true)).push (.cells [.int .u64 0,.int .u64 0] true)).push (.cells [.int .u64 0,.int .u64 0] true))=h2 at r0 r1 r2 g2 x2 ⊢
 have e2:stV 2 (.ptr (h.next+2) 0) (.agg [.int .u64 0,.int .u64 0]) h2=some (aundef,h2.set (h.next+2) (.cells [.int .u64 0,.int .u64 0] true)):=stV_two r2 rfl rfl
 have b3:loadV (some 2) (.ptr h.next 0) (h2.set (h.next+2) (.cells [.int .u64 0,.int .u64 0] true))=some (.agg [.int .u64 (a:Int),.int .u64 ((0:Nat):Int)]):=loadV_two (by rw [AHeap.get_set_ne _ _ (by omega)]; exact r0)
 have q3:(h2.set (h.next+2) (.cells [.int .u64 0,.int .u64 0] true)).get (h.next+2)=some (.cells [.int .u64 ((0:Nat):Int),.int .u64 ((0:Nat):Int)] true):=AHeap.get_set_same _ _ _
 have r3:(h2.set (h.next+2) (.cells [.int .u64 0,.int .u64 0] true)).get (h.next+1)=some (.cells [.int .u64 0,.int .u64 0] true):=by rw [AHeap.get_set_ne _ _ (by omega)]; exact r1
 have g3:Gro h (h2.set (h.next+2) (.cells [.int .u64 0,.int .u64 0] true)):=g2.set (by omega) _
 have x3:(h2.set (h.next+2) (.cells [.int .u64 0,.int .u64 0] true)).next=h.next+3:=x2
 simp (disch:=omega) only [RSe.down,e2,b3]
 generalize (h2.set (h.next+2) (.cells [.int .u64 0,.int .u64 0] true))=h3 at b3 q3 r3 g3 x3 ⊢
 obtain ⟨v9,h4,f4,o4,g4,fr4⟩:=slist_spec hNo (h:=h3) (a:=a) (b:=0) ha (by decide)
 have f4':lim otab.get I (.fn 101) [.agg [.int .u64 (a:Int),.int .u64 ((0:Nat):Int)]] h3=some (v9,h4):=f4
 generalize hgl:bl 128 (fun i=>if i < 64 then a.testBit i else (0:Nat).testBit (i - 64))=gl at o4
 have hmem:∀ k,k∈gl ↔ a.testBit k=true:=fun k=>by
  rw [<- hgl,mem_bl]
  constructor
  ·rintro ⟨_,e⟩
   by_cases h64:k < 64
   ·rwa [if_pos h64] at e
   ·rw [if_neg h64,Nat.zero_testBit] at e; cases e
  ·intro e
   have:=haN k e
   exact ⟨by omega,by rw [if_pos (by omega)]; exact e⟩
 have p4:PmAt h4 v9 gl:=o4.at
 have hgl2:gl.length <= 128:=by rw [<- hgl]; exact bl_len
 simp (disch:=omega) only [RSe.down,f4',p4.len]
 have q4:h4.get (h.next+2)=some (.cells [.int .u64 ((0:Nat):Int),.int .u64 ((0:Nat):Int)] true):=by rw [g4.same _ (by omega)]; exact q3
 refine WK_loopJ (fun r s=>r <= gl.length/\∃ y4 y5 y6 y7 y8 w h',s=⟨[.ptr it 0,.int .i64 (r:Int),.int .i64 (x:Int),.ptr (h.next+2) 0,y4,y5,y6,y7,y8,v9,.int .i64 (gl.length:Int),.ptr (h.next+1) 0],h'⟩/\Chg (fun j=>j=h.next+2) h4 h'/\h'.get (h.next+2)=some (.cells [.int .u64 ((w:Nat):Int),.int .u64 ((0:Nat):Int)] true)/\w < 18446744073709551616/\∀ y,w.testBit y=true ↔ ∃ k,k∈gl.take r/\m (m (iv x) k) x=y) gl.length
  ⟨Nat.zero_le _,_,_,_,_,_,0,h4,rfl,Chg.refl _,q4,by decide,fun y=>by simp⟩ ?_
 rintro r hr _ ⟨_,y4,y5,y6,y7,y8,w,h',rfl,kC,hq,hw,hiff⟩ next
 have gh:Gro h h':=(g3.trans g4).chg_new kC fun j hj=>by omega
 have h4le:=g4.le
 by_cases hrl:r < gl.length
 ·obtain ⟨k,hk⟩:=get_some hrl
  have hkN:=haN k ((hmem k).1 (List.mem_of_getElem? hk))
  have p':PmAt h' v9 gl:=p4.chg kC fun j hj e=>by have:=fr4 j hj; omega
  have i1:=p'.iaddr (q := .i64) hrl
  have i2:=p'.load hrl
  rw [show ap gl r=k by unfold ap; simp [hk]] at i2
  have ld:∀ {o:Nat} {v:AV},loadV none (.ptr it o) h=some v->loadV none (.ptr it o) h'=some v:=fun e=>by
   rw [loadV_same (F:=fun _=>False) gh.chg hit (fun hf=>hf)]; exact e
  have l3:=ld hvm
  have l4:=ld hvi
  have hi':=hi.gro gh
  have ht':=PmsAt.gro' ht gh
  have u1:=hi'.iaddr (q := .i64) (k:=x) (by rw [row_len]; exact hx)
  have u2:=hi'.load (k:=x) (by rw [row_len]; exact hx)
  rw [row_ap hx] at u2
  have hvx:=hiv x hx
  obtain ⟨t1,av,t2,t3⟩:=ht'.get (rowsT_get hvx)
  have s1:=t3.iaddr (q := .i64) (k:=k) (by rw [row_len]; exact hkN)
  have s2:=t3.load (k:=k) (by rw [row_len]; exact hkN)
  rw [row_ap hkN] at s2
  have hmN:=hT.cl _ _ hvx hkN
  obtain ⟨c1,bv,c2,c3⟩:=ht'.get (rowsT_get hmN)
  have d1:=c3.iaddr (q := .i64) (k:=x) (by rw [row_len]; exact hx)
  have d2:=c3.load (k:=x) (by rw [row_len]; exact hx)
  rw [row_ap hx] at d2
  have hjN:=hT.cl _ _ hmN hx
  have hset:loadV (some 2) (.ptr (h.next+2) 0) h'=some (.agg [.int .u64 ((w:Nat):Int),.int .u64 ((0:Nat):Int)]):=loadV_two hq
  obtain ⟨h6,f6,g6⟩:=with_bits hNo (h:=h') (a:=w) (b:=0) (i:=m (m (iv x) k) x) hw (by omega)
  have f6':lim otab.get I (.fn 184) [.agg [.int .u64 ((w:Nat):Int),.int .u64 ((0:Nat):Int)],.int .i64 ((m (m (iv x) k) x:Nat):Int)] h'=some (.agg [.int .u64 ((w ||| 2 ^ (m (m (iv x) k) x):Nat):Int),.int .u64 ((0:Nat):Int)],h6):=f6
  have hlt':h.next+2 < h'.next:=Nat.lt_of_lt_of_le (show h.next+2 < h4.next by omega) kC.le
  have q6:h6.get (h.next+2)=some (.cells [.int .u64 ((w:Nat):Int),.int .u64 ((0:Nat):Int)] true):=by rw [g6.same _ hlt']; exact hq
  have e6:stV 2 (.ptr (h.next+2) 0) (.agg [.int .u64 ((w ||| 2 ^ (m (m (iv x) k) x):Nat):Int),.int .u64 ((0:Nat):Int)]) h6=some (aundef,h6.set (h.next+2) (.cells [.int .u64 ((w ||| 2 ^ (m (m (iv x) k) x):Nat):Int),.int .u64 ((0:Nat):Int)] true)):=stV_two q6 rfl rfl
  simp (disch:=omega) only [RSe.down,lssT,i1,i2,hset,l3,l4,u1,u2,t1,t2,s1,s2,c1,c2,d1,d2,f6',e6,WDV_zero,WDE_none,iaddrS,add1N]
  refine next hrl _ ⟨by omega,_,_,_,_,_,w ||| 2 ^ (m (m (iv x) k) x),_,rfl,(kC.trans (g6.chg (F:=fun _=>False)) fun _ _ hf=>hf.elim).trans (Chg.set (F:=fun j=>j=h.next+2) h6 rfl _) fun j _ hj=>hj,AHeap.get_set_same _ _ _,Nat.or_lt_two_pow (n:=64) hw (Nat.pow_lt_pow_right (by decide) (by omega)),fun y=>?_⟩
  rw [tb_or,Bool.or_eq_true,hiff,take_succ_get hk,decide_eq_true_eq]
  constructor
  ·rintro (⟨k',k1,k2⟩ | e)
   ·exact ⟨k',List.mem_append.2 (.inl k1),k2⟩
   ·exact ⟨k,List.mem_append.2 (.inr (.head _)),e⟩
  ·rintro ⟨k',k1,k2⟩
   rcases List.mem_append.1 k1 with q | q
   ·exact .inl ⟨k',q,k2⟩
   ·rw [List.mem_singleton.1 q] at k2; exact .inr k2
 ·obtain rfl:gl.length=r:=by omega
  have hset:loadV (some 2) (.ptr (h.next+2) 0) h'=some (.agg [.int .u64 ((w:Nat):Int),.int .u64 ((0:Nat):Int)]):=loadV_two hq
  have r9:h'.get (h.next+1)=some (.cells [.int .u64 0,.int .u64 0] true):=by rw [kC.same _ (by omega) (by omega),g4.same _ (by omega)]; exact r3
  have e9:stV 2 (.ptr (h.next+1) 0) (.agg [.int .u64 ((w:Nat):Int),.int .u64 ((0:Nat):Int)]) h'=some (aundef,h'.set (h.next+1) (.cells [.int .u64 ((w:Nat):Int),.int .u64 ((0:Nat):Int)] true)):=stV_two r9 rfl rfl
  simp (disch:=omega) only [RSe.down,lssF,hset,e9]
  rw [List.take_length] at hiff
  refine ⟨(fun i hi=>by cases hi),sv w 0,result_cell rfl (loadV_two (AHeap.get_set_same _ _ _)),w,rfl,gh.set (by omega) _,hw,fun y=>?_⟩
  rw [hiff]
  simp only [hmem]
end
end Go.AM
namespace Go.AM
open Go Go.GT
theorem and_u64g {e:EqK} (x y:Nat) (hx:x < 18446744073709551616) (hy:y < 18446744073709551616):bin .and e (.int .u64 (x:Int)) (.int .u64 (y:Int))=some (.int .u64 ((x &&& y:Nat):Int)):=by
 have kx:kmod .u64 (x:Int)=x:=by show ((x:Int) % 18446744073709551616).toNat=x; omega
 have ky:kmod .u64 (y:Int)=y:=by show ((y:Int) % 18446744073709551616).toNat=y; omega
 show some (AV.int .u64 (awrap .u64 ((Nat.land (kmod .u64 (x:Int)) (kmod .u64 (y:Int)):Nat):Int)))=_
 rw [kx,ky]
 have hl:x &&& y <= x:=Nat.and_le_left
 show some (AV.int .u64 (((x &&& y:Nat):Int) % 18446744073709551616))=_
 rw [Int.emod_eq_of_lt (by omega) (by omega)]
theorem add_u64g {e:EqK} (x y:Nat) (h:x+y < 18446744073709551616):bin .add e (.int .u64 (x:Int)) (.int .u64 (y:Int))=some (.int .u64 ((x+y:Nat):Int)):=by
 show some (AV.int .u64 (((x:Int)+y) % 18446744073709551616))=_
 rw [Int.emod_eq_of_lt (by omega) (by omega),Int.natCast_add]
section
variable {I:Oracle} (hNo:NoI I) {h:AHeap}
include hNo
theorem oc_spec {x:Nat} (hx:x < 16777216):lim otab.get I (.fn 199) [.int .u64 (x:Int)] h=some (.int .i64 ((ones 24 x:Nat):Int),h):=by
 refine lim_walk (fn:=of199) rfl (hNo.at _ _ (by decide) (by decide) (by decide)) ?_
 show WK _ _ [] ⟨[.int .u64 (x:Int),aundef],h⟩ _
 dsimp only [of199,Z.t,Z.f,Z.i,Z.q,Z.m,Z.l,Z.b,Z.c,Z.w]
 rw [<- oc_ones hx]
 unfold oc
 have le:∀ a b:Nat,a &&& b <= a:=fun a b=>Nat.and_le_left
 have a1:=le (x / 2) 6148914691236517205
 have a2:=le x 6148914691236517205
 have s1:bin .shr .no (.int .u64 (x:Int)) (.int .u64 1)=some (.int .u64 ((x / 2:Nat):Int)):=shr_u64 x 1 (q := .u64) (by decide)
 have s2:bin .and .no (.int .u64 ((x / 2:Nat):Int)) (.int .u64 6148914691236517205)=some (.int .u64 ((x / 2 &&& 6148914691236517205:Nat):Int)):=and_u64g (x / 2) 6148914691236517205 (by omega) (by decide)
 have s3:bin .and .no (.int .u64 (x:Int)) (.int .u64 6148914691236517205)=some (.int .u64 ((x &&& 6148914691236517205:Nat):Int)):=and_u64g x 6148914691236517205 (by omega) (by decide)
 have s4:=add_u64g (e := .no) (x / 2 &&& 6148914691236517205) (x &&& 6148914691236517205) (by omega)
 simp (disch:=omega) only [RSe.down,s1,s2,s3,s4]
 have hb:(x / 2 &&& 6148914691236517205)+(x &&& 6148914691236517205) < 33554432:=by omega
 clear s1 s2 s3 s4 a1 a2
 generalize (x / 2 &&& 6148914691236517205)+(x &&& 6148914691236517205)=a at hb ⊢
 have a1:=le (a / 4) 3689348814741910323
 have a2:=le a 3689348814741910323
 have s1:bin .shr .no (.int .u64 (a:Int)) (.int .u64 2)=some (.int .u64 ((a / 4:Nat):Int)):=shr_u64 a 2 (q := .u64) (by decide)
 have s2:bin .and .no (.int .u64 ((a / 4:Nat):Int)) (.int .u64 3689348814741910323)=some (.int .u64 ((a / 4 &&& 3689348814741910323:Nat):Int)):=and_u64g (a / 4) 3689348814741910323 (by omega) (by decide)
 have s3:bin .and .no (.int .u64 (a:Int)) (.int .u64 3689348814741910323)=some (.int .u64 ((a &&& 3689348814741910323:Nat):Int)):=and_u64g a 3689348814741910323 (by omega) (by decide)
 have s4:=add_u64g (e := .no) (a / 4 &&& 3689348814741910323) (a &&& 3689348814741910323) (by omega)
 simp (disch:=omega) only [RSe.down,s1,s2,s3,s4]
 have hb2:(a / 4 &&& 3689348814741910323)+(a &&& 3689348814741910323) < 67108864:=by omega
 clear s1 s2 s3 s4 a1 a2 hb
 generalize (a / 4 &&& 3689348814741910323)+(a &&& 3689348814741910323)=b at hb2 ⊢
 have a1:=le (b / 16+b) 1085102592571150095
 have s1:bin .shr .no (.int .u64 (b:Int)) (.int .u64 4)=some (.int .u64 ((b / 16:Nat):Int)):=shr_u64 b 4 (q := .u64) (by decide)
 have s2:=add_u64g (e := .no) (b / 16) b (by omega)
 have s3:bin .and .no (.int .u64 ((b / 16+b:Nat):Int)) (.int .u64 1085102592571150095)=some (.int .u64 (((b / 16+b) &&& 1085102592571150095:Nat):Int)):=and_u64g (b / 16+b) 1085102592571150095 (by omega) (by decide)
 simp (disch:=omega) only [RSe.down,s1,s2,s3]
 have hb3:((b / 16+b) &&& 1085102592571150095) < 134217728:=by omega
 clear s1 s2 s3 a1 hb2
 generalize ((b / 16+b) &&& 1085102592571150095)=c at hb3 ⊢
 have s1:bin .shr .no (.int .u64 (c:Int)) (.int .u64 8)=some (.int .u64 ((c / 256:Nat):Int)):=shr_u64 c 8 (q := .u64) (by decide)
 have s2:=add_u64g (e := .no) c (c / 256) (by omega)
 simp (disch:=omega) only [RSe.down,s1,s2]
 have hb4:c+c / 256 < 268435456:=by omega
 clear s1 s2 hb3
 generalize c+c / 256=d at hb4 ⊢
 have s1:bin .shr .no (.int .u64 (d:Int)) (.int .u64 16)=some (.int .u64 ((d / 65536:Nat):Int)):=shr_u64 d 16 (q := .u64) (by decide)
 have s2:=add_u64g (e := .no) d (d / 65536) (by omega)
 simp (disch:=omega) only [RSe.down,s1,s2]
 have hb5:d+d / 65536 < 536870912:=by omega
 clear s1 s2 hb4
 generalize d+d / 65536=g at hb5 ⊢
 have s1:bin .shr .no (.int .u64 (g:Int)) (.int .u64 32)=some (.int .u64 ((g / 4294967296:Nat):Int)):=shr_u64 g 32 (q := .u64) (by decide)
 have s2:=add_u64g (e := .no) g (g / 4294967296) (by omega)
 simp (disch:=omega) only [RSe.down,s1,s2]
 have hb6:g+g / 4294967296 < 1073741824:=by omega
 clear s1 s2 hb5
 generalize g+g / 4294967296=k at hb6 ⊢
 have s1:toIntV .i64 (.int .u64 (k:Int))=some (.int .i64 (k:Int)):=by
  show some (AV.int .i64 (awrap .i64 (k:Int)))=_
  rw [awrap_id (by omega) (by omega)]
 have s2:bin .and .no (.int .i64 (k:Int)) (.int .i64 127)=some (.int .i64 ((k % 128:Nat):Int)):=and_i64 (n:=(k:Int)) 127 7 (by decide) (by decide)
 simp (disch:=omega) only [RSe.down,s1,s2]
 exact ⟨(fun i hi=>by cases hi),rfl,trivial⟩
theorem size_bits {w:Nat} (hw:w < 16777216):∃ h',lim otab.get I (.fn 127) [sv w 0] h=some (.int .i64 ((ones 24 w:Nat):Int),h')/\Gro h h':=by
 refine (lim_walk_ex (T:=otab.get) (I:=I) (f:=127) (fn:=of127) rfl (a:=[sv w 0]) (h:=h) (P:=fun v h'=>v = .int .i64 ((ones 24 w:Nat):Int)/\Gro h h') (hNo.at _ _ (by decide) (by decide) (by decide)) ?_) |> fun ⟨v,h',e,q1,q2⟩=>⟨h',by rw [e,q1],q2⟩
 show WK _ _ [] ⟨[.agg [.int .u64 (w:Int),.int .u64 ((0:Nat):Int)],aundef,aundef],h⟩ _
 dsimp only [of127,Z.t,Z.f,Z.i,Z.q,Z.m,Z.l,Z.b,Z.c,Z.w]
 have hca:(AV.agg [.int .u64 (w:Int),.int .u64 ((0:Nat):Int)]).cells=[.int .u64 (w:Int),.int .u64 ((0:Nat):Int)]:=rfl
 have g1:=Gro.push h (.cells [.int .u64 (w:Int),.int .u64 ((0:Nat):Int)] true)
 have r0:=AHeap.get_push_same h (.cells [.int .u64 (w:Int),.int .u64 ((0:Nat):Int)] true)
 simp (disch:=omega) only [RSe.down,hca]
 generalize h.push (.cells [.int .u64 (w:Int),.int .u64 ((0:Nat):Int)] true)=h1 at g1 r0 ⊢
 have la0:loadV none (.ptr h.next 0) h1=some (.int .u64 (w:Int)):=loadV_get r0 rfl
 have la1:loadV none (.ptr h.next 1) h1=some (.int .u64 ((0:Nat):Int)):=loadV_get r0 rfl
 have ia:∀ (tm:List AV) (hh:AHeap) (x:AOpd) (i:Nat),ev tm x = .ptr i 0->evalQ (.iaddr (some 2) 1 x (.lit (.int .i64 0))) tm hh=some (.ptr i 0):=fun tm hh x i hx=>iaddrA (k:=0) (q := .i64) hx rfl (by decide)
 have ib:∀ (tm:List AV) (hh:AHeap) (x:AOpd) (i:Nat),ev tm x = .ptr i 0->evalQ (.iaddr (some 2) 1 x (.lit (.int .i64 1))) tm hh=some (.ptr i 1):=fun tm hh x i hx=>iaddrA (k:=1) (q := .i64) hx rfl (by decide)
 have f0:=oc_spec hNo (h:=h1) hw
 have f1:=oc_spec hNo (h:=h1) (x:=0) (by decide)
 have ho:=oc_ones (x:=0) (by decide)
 have hz:ones 24 0=0:=by rw [<- ho]; decide
 rw [hz] at f1
 have hle:ones 24 w <= 24:=by
  unfold ones
  exact Nat.le_trans (List.length_filter_le _ _) (by simp)
 have ad:=addN (e := .no) (n:=ones 24 w) (m:=0) (by omega)
 rw [Nat.add_zero] at ad
 rw [ia _ _ _ _ rfl]
 simp (disch:=omega) only [RSe.down,la0,WDV_zero]
 rw [ib _ _ _ _ rfl]
 simp (disch:=omega) only [RSe.down,la1,f0,f1,ad,WDV_succ,WDV_zero,WDE_some,checks,lower,recheck,AOp.cls,AV.beq_refl,cond_true,true_and]
 exact ⟨(fun i hi=>by cases hi),_,rfl,rfl,g1⟩
end
end Go.AM
namespace Go.AM
open Go Go.GT
def ws (H:List Nat):AV:=sv (wd H) 0
def mp (K:List Nat):List (AV × AV):=K.map fun a=>(sv a 0,.bool true)
theorem key_sv (a b:Nat):keyEq (.flat [1,1]) (sv a 0) (sv b 0)=some (decide (a=b)):=by
 show (if 2=2/\2=2 then eqCells [1,1] [.int .u64 (a:Int),.int .u64 ((0:Nat):Int)] [.int .u64 (b:Int),.int .u64 ((0:Nat):Int)] else none)=_
 rw [if_pos ⟨rfl,rfl⟩]
 show (match (some (Nat.beq a b):Option Bool) with | some true=>_ | r=>r)=_
 by_cases e:a=b
 ·subst e
  rw [Nat.beq_refl,decide_eq_true rfl]; rfl
 ·have:Nat.beq a b=false:=by cases hb:Nat.beq a b <;> simp_all
  rw [this,decide_eq_false e]
theorem find_mp (a:Nat):∀ (K:List Nat) (i:Nat),(a∈K->∃ j,findKey (.flat [1,1]) (sv a 0) (mp K) i=some (some (i+j,.bool true))/\setAt (mp K) j (sv a 0) (.bool true)=mp K)/\(a ∉ K->findKey (.flat [1,1]) (sv a 0) (mp K) i=some none)
 | [],i=>⟨(fun h=>by cases h),fun _=>rfl⟩
 | b :: K,i=>by
  have e0:findKey (.flat [1,1]) (sv a 0) (mp (b :: K)) i=(match keyEq (.flat [1,1]) (sv a 0) (sv b 0) with | some true=>some (some (i,.bool true)) | some false=>findKey (.flat [1,1]) (sv a 0) (mp K) (i+1) | none=>none):=rfl
  rw [e0,key_sv]
  obtain ⟨ih1,ih2⟩:=find_mp a K (i+1)
  by_cases e:a=b
  ·subst e
   rw [decide_eq_true rfl]
   exact ⟨fun _=>⟨0,rfl,rfl⟩,fun h=>absurd (List.mem_cons_self) h⟩
  ·rw [decide_eq_false e]
   refine ⟨fun h=>?_,fun h=>ih2 fun k=>h (.tail _ k)⟩
   rcases List.mem_cons.1 h with q | q
   ·exact absurd q e
   ·obtain ⟨j,j1,j2⟩:=ih1 q
    refine ⟨j+1,?_,?_⟩
    ·show findKey (.flat [1,1]) (sv a 0) (mp K) (i+1)=_
     rw [j1,show i+1+j=i+(j+1) by omega]
    ·show (sv b 0,AV.bool true) :: setAt (mp K) j (sv a 0) (.bool true)=_
     rw [j2]; rfl
def addK (K:List Nat) (a:Nat):List Nat:=if a∈K then K else K ++ [a]
section
variable {tm:List AV} {h:AHeap} {im:Nat} {K:List Nat}
theorem lookup_mp (hg:h.get im=some (.map (mp K))) {x k:AOpd} {a:Nat} (hx:ev tm x = .map im) (hk:ev tm k=sv a 0):evalQ (.lookup (.flat [1,1]) (.bool false) false x k) tm h=some (.bool (decide (a∈K))):=by
 obtain ⟨h1,h2⟩:=find_mp a K 0
 have hok:keyOK (.flat [1,1]) (sv a 0)=true:=rfl
 have hl:lookK (.flat [1,1]) (sv a 0) (mp K)=findKey (.flat [1,1]) (sv a 0) (mp K) 0:=by unfold lookK; rw [hok]; rfl
 simp only [evalQ,hx,hk,hg,hl]
 by_cases e:a∈K
 ·obtain ⟨j,j1,_⟩:=h1 e
  rw [j1,decide_eq_true e]; rfl
 ·rw [h2 e,decide_eq_false e]; rfl
theorem mupd_mp {C:CallT} (hg:h.get im=some (.map (mp K))) {x k:AOpd} {a:Nat} (hx:ev tm x = .map im) (hk:ev tm k=sv a 0):evalE (.mupd (.flat [1,1]) x k (.lit (.bool true))) C tm h=some (aundef,h.set im (.map (mp (addK K a)))):=by
 obtain ⟨h1,h2⟩:=find_mp a K 0
 have hok:keyOK (.flat [1,1]) (sv a 0)=true:=rfl
 have hl:lookK (.flat [1,1]) (sv a 0) (mp K)=findKey (.flat [1,1]) (sv a 0) (mp K) 0:=by unfold lookK; rw [hok]; rfl
 simp only [evalE,hx,hk,hg,hl,ev_lit]
 unfold addK
 by_cases e:a∈K
 ·obtain ⟨j,j1,j2⟩:=h1 e
  rw [j1,if_pos e]
  simp only [Nat.zero_add,j2]
 ·rw [h2 e,if_neg e]
  have:mp (K ++ [a])=mp K ++ [(sv a 0,.bool true)]:=by unfold mp; rw [List.map_append]; rfl
  rw [this]
end
def c2 (L:List (List Nat)):List AV:=cells2 (L.map ws)
theorem ws_two (L:List (List Nat)):Two2 (L.map ws):=fun a ha=>by
 obtain ⟨H,_,rfl⟩:=List.mem_map.1 ha
 exact ⟨_,_,rfl,rfl,rfl⟩
theorem c2_len {L:List (List Nat)}:(c2 L).length=L.length * 2:=by unfold c2; rw [(ws_two L).len,List.length_map]
theorem c2_app {L M:List (List Nat)}:c2 (L ++ M)=c2 L ++ c2 M:=by unfold c2 cells2; rw [List.map_append,List.flatMap_append]
theorem c2_get {L:List (List Nat)} {k:Nat} {H:List Nat} (h:L[k]?=some H):(c2 L)[k * 2]?=some (.int .u64 (wd H:Int))/\(c2 L)[k * 2+1]?=some (.int .u64 ((0:Nat):Int)):=by
 unfold c2
 rw [(ws_two L).get,(ws_two L).get,show k * 2 / 2=k by omega,show (k * 2+1) / 2=k by omega,show k * 2 % 2=0 by omega,show (k * 2+1) % 2=1 by omega,List.getElem?_map,h]
 exact ⟨rfl,rfl⟩
theorem cut_two:∀ (l:List AV) (i:Nat) (x y:AV),l[i]?=some x->l[i+1]?=some y->cut l i 2=some [x,y]
 | [],i,x,y,h,_=>by simp at h
 | a :: l,0,x,y,h,h2=>by
  simp at h; subst h
  have h2':l[0]?=some y:=by simpa using h2
  rw [cut_cons,cut_at l 0 y h2']
 | a :: l,i+1,x,y,h,h2=>by
  rw [cut_succ]; exact cut_two l i x y (by simpa using h) (by simpa using h2)
def SsAt (h:AHeap) (v:AV) (L:List (List Nat)):Prop:=Own 2 h v L.length (c2 L)
section
variable {h:AHeap} {v:AV} {L:List (List Nat)}
theorem SsAt.len (s:SsAt h v L) {h':AHeap}:lenV 1 v h'=some (.int .i64 (L.length:Int)):=by
 rcases s with ⟨rfl,e,_⟩ | ⟨i,cap,rfl,_⟩
 ·rw [e]; rfl
 ·rfl
def ead2 (v:AV) (k:Nat):AV:=match v with | .slice i _ _ _=>.ptr i (k * 2) | _=>.nilp
theorem SsAt.iaddr (s:SsAt h v L) {k:Nat} {q:IntKind} (hk:k < L.length):iaddrV 2 v (.int q (k:Int))=some (ead2 v k):=by
 rcases s with ⟨rfl,e,_⟩ | ⟨i,cap,rfl,_⟩
 ·omega
 ·show (if 0 <= (k:Int)/\(k:Int) < (L.length:Int) then some (AV.ptr i (0+(k:Int).toNat * 2)) else none)=_
  rw [if_pos (by omega),Int.toNat_natCast,Nat.zero_add]; rfl
theorem SsAt.load (s:SsAt h v L) {k:Nat} {H:List Nat} (hk:L[k]?=some H):loadV (some 2) (ead2 v k) h=some (ws H):=by
 have hl:=(List.getElem?_eq_some_iff.1 hk).1
 rcases s with ⟨rfl,e,_⟩ | ⟨i,cap,rfl,_,_,_,h3⟩
 ·omega
 ·obtain ⟨a,b⟩:=c2_get hk
  show (match cellsOf h i with | some c=>fit (some 2) (k * 2) c | none=>none)=_
  rw [cellsOf_get h3]
  show (match cut (c2 L) (k * 2) 2 with | some r=>some (AV.agg r) | none=>none)=_
  rw [cut_two _ _ _ _ a b]; rfl
theorem SsAt.chg {F:Nat->Prop} {h':AHeap} (s:SsAt h v L) (c:Chg F h h') (hF:∀ i,oid v=some i->¬ F i):SsAt h' v L:=Own.chg s c hF
theorem SsAt.gro {h':AHeap} (s:SsAt h v L) (g:Gro h h'):SsAt h' v L:=Own.gro s g
end
structure KS (h:AHeap) (B ik im iq:Nat) (v:AV) (F:List (List Nat)):Prop where
 k:h.get ik=some (.cells [.map im] true)
 m:h.get im=some (.map (mp (F.map wd)))
 q:h.get iq=some (.cells [v] true)
 s:SsAt h v F
 kq:ik ≠ iq
 km:ik ≠ im
 qm:iq ≠ im
 vk:∀ j,oid v=some j->j ≠ ik/\j ≠ im/\j ≠ iq/\B <= j
 bd:B <= ik/\B <= im/\B <= iq
 lt:ik < h.next/\im < h.next/\iq < h.next
theorem KS.gro {h h':AHeap} {B ik im iq:Nat} {v:AV} {F:List (List Nat)} (s:KS h B ik im iq v F) (g:Gro h h'):KS h' B ik im iq v F:=by
 obtain ⟨l1,l2,l3⟩:=s.lt
 have hle:=g.le
 exact ⟨by rw [g.same _ l1]; exact s.k,by rw [g.same _ l2]; exact s.m,by rw [g.same _ l3]; exact s.q,s.s.gro g,s.kq,s.km,s.qm,s.vk,s.bd,by omega⟩
section
variable {I:Oracle} (hNo:NoI I) {h:AHeap}
include hNo
theorem add_spec {B ik im iq : Nat} {v : AV} {F : List (List Nat)} (s : KS h B ik im iq v F) (H : List Nat) (hB : B <= h.next) (hl : F.length <= 512) (hw : ∀ K∈F,wd H=wd K->H=K) :
  ∃ v' h',lim otab.get I (.fn 195) [ws H,.ptr ik 0,.ptr iq 0] h=some (.bool (decide ((if H∈F then F else F ++ [H]).length <= 512)),h')/\KS h' B ik im iq v' (if H∈F then F else F ++ [H])/\Chg (fun j=>B <= j) h h':=by
 refine (lim_walk_ex (T:=otab.get) (I:=I) (f:=195) (fn:=of195) rfl (a:=[ws H,.ptr ik 0,.ptr iq 0]) (h:=h) (P:=fun a h'=>∃ v',a = .bool (decide ((if H∈F then F else F ++ [H]).length <= 512))/\KS h' B ik im iq v' (if H∈F then F else F ++ [H])/\Chg (fun j=>B <= j) h h') (hNo.at _ _ (by decide) (by decide) (by decide)) ?_) |> fun ⟨a,h',e,v',q1,q2⟩=>⟨v',h',by rw [e,q1],q2⟩
 show WK _ _ [] ⟨[.agg [.int .u64 (wd H:Int),.int .u64 ((0:Nat):Int)],.ptr ik 0,.ptr iq 0,aundef,aundef],h⟩ _
 dsimp only [of195,Z.t,Z.f,Z.i,Z.q,Z.m,Z.l,Z.b,Z.c,Z.w]
 have hca:(AV.agg [.int .u64 (wd H:Int),.int .u64 ((0:Nat):Int)]).cells=[.int .u64 (wd H:Int),.int .u64 ((0:Nat):Int)]:=rfl
 have g1:=Gro.push h (.cells [.int .u64 (wd H:Int),.int .u64 ((0:Nat):Int)] true)
 have r0:=AHeap.get_push_same h (.cells [.int .u64 (wd H:Int),.int .u64 ((0:Nat):Int)] true)
 have x1:(h.push (.cells [.int .u64 (wd H:Int),.int .u64 ((0:Nat):Int)] true)).next=h.next+1:=rfl
 have s1:=s.gro g1
 simp (disch:=omega) only [RSe.down,hca]
 generalize h.push (.cells [.int .u64 (wd H:Int),.int .u64 ((0:Nat):Int)] true)=h1 at g1 r0 x1 s1 ⊢
 have lk:loadV none (.ptr ik 0) h1=some (.map im):=loadV_get s1.k rfl
 have lq:loadV none (.ptr iq 0) h1=some v:=loadV_get s1.q rfl
 have l0:loadV (some 2) (.ptr h.next 0) h1=some (.agg [.int .u64 (wd H:Int),.int .u64 ((0:Nat):Int)]):=loadV_two r0
 simp (disch:=omega) only [RSe.down,lk,l0]
 rw [lookup_mp (a:=wd H) s1.m rfl rfl]
 have hmem:wd H∈F.map wd ↔ H∈F:=by
  rw [List.mem_map]
  exact ⟨fun ⟨K,k1,k2⟩=>by rw [hw K k1 k2.symm]; exact k1,fun hh=>⟨H,hh,rfl⟩⟩
 by_cases hm:H∈F
 ·rw [decide_eq_true (hmem.2 hm)]
  simp (disch:=omega) only [RSe.down,not_bool,Bool.not_true,lq,s1.s.len,leqT]
  refine ⟨(fun i hi=>by cases hi),_,rfl,v,?_,by rw [if_pos hm]; exact s1,g1.chg⟩
  rw [if_pos hm,decide_eq_true hl]; rfl
 ·rw [decide_eq_false (fun e=>hm (hmem.1 e))]
  simp (disch:=omega) only [RSe.down,not_bool,Bool.not_false,lk,l0]
  rw [mupd_mp (a:=wd H) s1.m rfl rfl]
  have hadd:addK (F.map wd) (wd H)=(F ++ [H]).map wd:=by
   unfold addK
   rw [if_neg (fun e=>hm (hmem.1 e)),List.map_append]; rfl
  rw [hadd]
  obtain ⟨bk,bm,bq⟩:=s.bd
  obtain ⟨tk,tm,tq⟩:=s.lt
  have c2':Chg (fun j=>B <= j) h1 (h1.set im (.map (mp ((F ++ [H]).map wd)))):=Chg.set (F:=fun j=>B <= j) h1 bm _
  have m2:(h1.set im (.map (mp ((F ++ [H]).map wd)))).get im=some (.map (mp ((F ++ [H]).map wd))):=AHeap.get_set_same _ _ _
  have k2:(h1.set im (.map (mp ((F ++ [H]).map wd)))).get ik=some (.cells [.map im] true):=by rw [AHeap.get_set_ne _ _ s.km]; exact s1.k
  have q2:(h1.set im (.map (mp ((F ++ [H]).map wd)))).get iq=some (.cells [v] true):=by rw [AHeap.get_set_ne _ _ s.qm]; exact s1.q
  have r2:(h1.set im (.map (mp ((F ++ [H]).map wd)))).get h.next=some (.cells [.int .u64 (wd H:Int),.int .u64 ((0:Nat):Int)] true):=by rw [AHeap.get_set_ne _ _ (by omega)]; exact r0
  have x2:(h1.set im (.map (mp ((F ++ [H]).map wd)))).next=h.next+1:=x1
  have s2:SsAt (h1.set im (.map (mp ((F ++ [H]).map wd)))) v F:=s1.s.chg (F:=fun j=>j=im) (Chg.set (F:=fun j=>j=im) h1 rfl _) fun j hj e=>(s.vk j hj).2.1 e
  generalize (h1.set im (.map (mp ((F ++ [H]).map wd))))=h2 at c2' m2 k2 q2 r2 x2 s2 ⊢
  have lq2:loadV none (.ptr iq 0) h2=some v:=loadV_get q2 rfl
  have l02:loadV (some 2) (.ptr h.next 0) h2=some (.agg [.int .u64 (wd H:Int),.int .u64 ((0:Nat):Int)]):=loadV_two r2
  have eb:∀ (tm:List AV),nth tm 0 = .agg [.int .u64 (wd H:Int),.int .u64 ((0:Nat):Int)]->evalA (.bslice 1 2 [.int .u64 0,.int .u64 0] [(0,.tmp 0)]) tm h2=some (.cells [.int .u64 (wd H:Int),.int .u64 ((0:Nat):Int)] true,.slice h2.next 0 1 (.exact 1)):=fun tm e=>by
   simp only [evalA,fillsS,ev_tmp,e]; rfl
  obtain ⟨b',h3,e3,o3,c3,j3,n3⟩:=Own.app1 (bytes:=16) (c:=[.int .u64 (wd H:Int),.int .u64 ((0:Nat):Int)]) s2 rfl rfl (by decide) (by omega)
  simp (disch:=omega) only [RSe.down,lq2,l02]
  rw [eb _ rfl]
  have ho:c2 F ++ [.int .u64 (wd H:Int),.int .u64 ((0:Nat):Int)]=c2 (F ++ [H]):=by rw [c2_app]; rfl
  rw [ho] at o3
  have vk:=s.vk
  have q3:h3.get iq=some (.cells [v] true):=by rw [c3.same _ (by omega) (fun e=>(vk _ e).2.2.1 rfl)]; exact q2
  have k3:h3.get ik=some (.cells [.map im] true):=by rw [c3.same _ (by omega) (fun e=>(vk _ e).1 rfl)]; exact k2
  have m3:h3.get im=some (.map (mp ((F ++ [H]).map wd))):=by rw [c3.same _ (by omega) (fun e=>(vk _ e).2.1 rfl)]; exact m2
  have e4:stV 1 (.ptr iq 0) b' h3=some (aundef,h3.set iq (.cells [b'] true)):=stV_at q3 (show 0 < [v].length from Nat.zero_lt_one) (by rcases o3 with ⟨q,_⟩ | ⟨_,_,q,_⟩ <;> rw [q] <;> rfl)
  have k4:(h3.set iq (.cells [b'] true)).get ik=some (.cells [.map im] true):=by rw [AHeap.get_set_ne _ _ s.kq]; exact k3
  have m4:(h3.set iq (.cells [b'] true)).get im=some (.map (mp ((F ++ [H]).map wd))):=by rw [AHeap.get_set_ne _ _ (Ne.symm s.qm)]; exact m3
  have q4:(h3.set iq (.cells [b'] true)).get iq=some (.cells [b'] true):=AHeap.get_set_same _ _ _
  have lt4:(h3.set iq (.cells [b'] true)).next=h3.next:=rfl
  have s4:SsAt (h3.set iq (.cells [b'] true)) b' (F ++ [H]):=by
   have o3':SsAt h3 b' (F ++ [H]):=by
    unfold SsAt; rw [List.length_append,List.length_singleton]; exact o3
   exact o3'.chg (F:=fun j=>j=iq) (Chg.set (F:=fun j=>j=iq) h3 rfl _) fun j hj e=>by rw [j3] at hj; cases hj; omega
  have lq4:loadV none (.ptr iq 0) (h3.set iq (.cells [b'] true))=some b':=loadV_get q4 rfl
  have c4:Chg (fun j=>B <= j) h (h3.set iq (.cells [b'] true)):=((g1.chg (F:=fun j=>B <= j)).trans c2' fun _ _ hj=>hj).trans ((c3.mono (G:=fun j=>B <= j) fun j _ hj=>(vk j hj).2.2.2).trans (Chg.set (F:=fun j=>B <= j) h3 bq _) fun _ _ hj=>hj) fun _ _ hj=>hj
  simp (disch:=omega) only [RSe.down,e3,e4,lq4,s4.len,leq_int]
  refine ⟨(fun i hi=>by cases hi),_,rfl,b',?_,?_,c4⟩
  ·rw [if_neg hm]
   show AV.bool (decide (((F ++ [H]).length:Int) <= 512))=_
   congr 1
   exact decide_eq_decide.2 (by omega)
  ·rw [if_neg hm]
   exact ⟨k4,m4,q4,s4,s.kq,s.km,s.qm,fun j hj=>by rw [j3] at hj; cases hj; omega,s.bd,by rw [lt4,n3]; omega⟩
end
end Go.AM
namespace Go.AM
open Go Go.GT
theorem wd64 {H:List Nat} (h:∀ x∈H,x < 64):wd H < 18446744073709551616:=wd_lt (n:=64) h
theorem bl_wd {H:List Nat} (ha:H.Pairwise (· < ·)) (h:∀ x∈H,x < 64):bl 128 (fun i=>if i < 64 then (wd H).testBit i else (0:Nat).testBit (i - 64))=H:=by
 refine ascN_unique bl_asc ha fun x=>?_
 rw [mem_bl]
 constructor
 ·rintro ⟨_,e⟩
  by_cases h64:x < 64
  ·rw [if_pos h64,tb_wd] at e; exact of_decide_eq_true e
  ·rw [if_neg h64,Nat.zero_testBit] at e; cases e
 ·intro hx
  have:=h x hx
  exact ⟨by omega,by rw [if_pos this,tb_wd]; exact decide_eq_true hx⟩
section
variable {I:Oracle} (hNo:NoI I) {h:AHeap}
include hNo
theorem ws_has {H:List Nat} (hH:∀ x∈H,x < 64) {i:Nat} (hi:i < 64):∃ h',lim otab.get I (.fn 180) [ws H,.int .i64 (i:Int)] h=some (.bool (decide (i∈H)),h')/\Gro h h':=by
 have:=has_bits hNo (h:=h) (a:=wd H) (b:=0) (wd64 hH) (by decide) (show i < 128 by omega)
 rw [if_pos hi,tb_wd] at this
 exact this
theorem ws_list {H:List Nat} (ha:H.Pairwise (· < ·)) (hH:∀ x∈H,x < 64):∃ v h',lim otab.get I (.fn 101) [ws H] h=some (v,h')/\Own 1 h' v H.length (pc H)/\Gro h h'/\∀ j,oid v=some j->h.next <= j:=by
 have:=slist_spec hNo (h:=h) (a:=wd H) (b:=0) (wd64 hH) (by decide)
 rw [bl_wd ha hH] at this
 exact this
theorem ws_size {H:List Nat} (ha:H.Pairwise (· < ·)) (hH:∀ x∈H,x < 24):∃ h',lim otab.get I (.fn 127) [ws H] h=some (.int .i64 ((H.length:Nat):Int),h')/\Gro h h':=by
 have:=size_bits hNo (h:=h) (w:=wd H) (wd_lt (n:=24) hH)
 rw [ones_wd ha hH] at this
 exact this
theorem ws_in {H K:List Nat} (hH:∀ x∈H,x < 64) (hK:∀ x∈K,x < 64):∃ h',lim otab.get I (.fn 104) [ws H,ws K] h=some (.bool (subB H K),h')/\Gro h h':=by
 obtain ⟨t,h',e,g,ht⟩:=in_bits hNo (h:=h) (wd64 hH) (wd64 hK)
 have:t=subB H K:=by
  rw [Bool.eq_iff_iff,ht,wd_sub]
 exact ⟨h',by rw [<- this]; exact e,g⟩
theorem ws_closure {it N : Nat} {m : Nat->Nat->Nat} {vm vl : AV} {H l : List Nat} (hit : it < h.next) (hvm : loadV none (.ptr it 3) h=some vm) (ht : PmsAt h vm (rowsT N m)) (hT : TG N m) (hN : N <= 64) (ha : H.Pairwise (· < ·)) (hH : ∀ x∈H,x < N) (hv : PmAt h vl l) (hl : ∀ x∈l,x < N) (hll : l.length <= 1000) :
  ∃ h',lim otab.get I (.fn 183) [.ptr it 0,ws H,vl] h=some (ws (clo N m (H ++ l)),h')/\Gro h h':=by
 have hH64:∀ x∈H,x < 64:=fun x hx=>Nat.lt_of_lt_of_le (hH x hx) hN
 obtain ⟨w,h',e,g,h1,h2⟩:=closure_spec hNo hit hvm ht hT hN (wd64 hH64) (fun i hi=>by rw [tb_wd] at hi; exact hH i (of_decide_eq_true hi)) hv hl hll
 rw [bl_wd ha hH64] at h2
 have hS:∀ s∈H ++ l,s < N:=fun s hs=>(List.mem_append.1 hs).elim (hH s) (hl s)
 have:w=wd (clo N m (H ++ l)):=wd_of fun i=>by rw [h2,mem_clo hT hS]
 exact ⟨h',by rw [<- show sv w 0=ws (clo N m (H ++ l)) by rw [this]; rfl]; exact e,g⟩
theorem ws_moved {it N x : Nat} {m : Nat->Nat->Nat} {iv : Nat->Nat} {vm vi : AV} {H : List Nat} (hit : it < h.next) (hvm : loadV none (.ptr it 3) h=some vm) (ht : PmsAt h vm (rowsT N m)) (hvi : loadV none (.ptr it 4) h=some vi) (hi : PmAt h vi ((List.range N).map iv)) (hiv : ∀ i,i < N->iv i=ti N m i) (hT : TG N m) (hN : N <= 64) (hH : ∀ x∈H,x < N) (hx : x < N) :
  ∃ h',lim otab.get I (.fn 107) [.ptr it 0,ws H,.int .i64 (x:Int)] h=some (ws (cjS N m x H),h')/\Gro h h':=by
 have hH64:∀ x∈H,x < 64:=fun x hx=>Nat.lt_of_lt_of_le (hH x hx) hN
 obtain ⟨w,h',e,g,h1,h2⟩:=moved_spec hNo hit hvm ht hvi hi (fun i hi=>by rw [hiv i hi]; exact (ti_spec hT hi).1) hT hN (wd64 hH64) (fun i hi=>by rw [tb_wd] at hi; exact hH i (of_decide_eq_true hi)) hx
 have:w=wd (cjS N m x H):=wd_of fun i=>by
  rw [h2,mem_cjS hT hH hx,hiv x hx]
  simp only [tb_wd,decide_eq_true_eq]
 exact ⟨h',by rw [<- show sv w 0=ws (cjS N m x H) by rw [this]; rfl]; exact e,g⟩
def cmpS (H K:List Nat):Int:=if H.length ≠ K.length then (H.length:Int) - K.length else cmpL H K
omit hNo in
theorem cmpS_neg {H K:List Nat}:cmpS H K < 0 ↔ GT.less H K=true:=by
 unfold cmpS GT.less
 by_cases e:H.length=K.length
 ·rw [if_neg (by omega),if_pos e,cmpL_neg]
 ·rw [if_pos e,if_neg e,decide_eq_true_eq]; omega
theorem find2_spec {H K:List Nat} (aH:H.Pairwise (· < ·)) (aK:K.Pairwise (· < ·)) (hH:∀ x∈H,x < 24) (hK:∀ x∈K,x < 24):∃ h',lim otab.get I (.fn 197) [ws H,ws K] h=some (.int .i64 (cmpS H K),h')/\Gro h h':=by
 refine (lim_walk_ex (T:=otab.get) (I:=I) (f:=197) (fn:=of197) rfl (a:=[ws H,ws K]) (h:=h) (P:=fun v h'=>v = .int .i64 (cmpS H K)/\Gro h h') (hNo.at _ _ (by decide) (by decide) (by decide)) ?_) |> fun ⟨v,h',e,q1,q2⟩=>⟨h',by rw [e,q1],q2⟩
 show WK _ _ [] ⟨[ws H,ws K,aundef,aundef],h⟩ _
 dsimp only [of197,Z.t,Z.f,Z.i,Z.q,Z.m,Z.l,Z.b,Z.c,Z.w]
 have cH:(ws H).cells=[.int .u64 (wd H:Int),.int .u64 ((0:Nat):Int)]:=rfl
 have cK:(ws K).cells=[.int .u64 (wd K:Int),.int .u64 ((0:Nat):Int)]:=rfl
 have lH:H.length <= 24:=by
  have:=nodup_le (ascN_nodup aH) (l':=List.range 24) fun x hx=>List.mem_range.2 (hH x hx)
  simpa using this
 have lK:K.length <= 24:=by
  have:=nodup_le (ascN_nodup aK) (l':=List.range 24) fun x hx=>List.mem_range.2 (hK x hx)
  simpa using this
 have g2:Gro h ((h.push (.cells [.int .u64 (wd H:Int),.int .u64 ((0:Nat):Int)] true)).push (.cells [.int .u64 (wd K:Int),.int .u64 ((0:Nat):Int)] true)):=(Gro.push h _).trans (Gro.push _ _)
 have r0:((h.push (.cells [.int .u64 (wd H:Int),.int .u64 ((0:Nat):Int)] true)).push (.cells [.int .u64 (wd K:Int),.int .u64 ((0:Nat):Int)] true)).get h.next=some (.cells [.int .u64 (wd H:Int),.int .u64 ((0:Nat):Int)] true):=by
  rw [AHeap.get_push_lt _ _ (show h.next < h.next+1 by omega),AHeap.get_push_same]
 have r1:((h.push (.cells [.int .u64 (wd H:Int),.int .u64 ((0:Nat):Int)] true)).push (.cells [.int .u64 (wd K:Int),.int .u64 ((0:Nat):Int)] true)).get (h.next+1)=some (.cells [.int .u64 (wd K:Int),.int .u64 ((0:Nat):Int)] true):=AHeap.get_push_same (h.push _) _
 have x2:((h.push (.cells [.int .u64 (wd H:Int),.int .u64 ((0:Nat):Int)] true)).push (.cells [.int .u64 (wd K:Int),.int .u64 ((0:Nat):Int)] true)).next=h.next+2:=rfl
 simp (disch:=omega) only [RSe.down,cH,cK,AHeap.next_push]
 generalize ((h.push (.cells [.int .u64 (wd H:Int),.int .u64 ((0:Nat):Int)] true)).push (.cells [.int .u64 (wd K:Int),.int .u64 ((0:Nat):Int)] true))=h2 at g2 r0 r1 x2 ⊢
 have ld:∀ {h'},Gro h2 h'->loadV (some 2) (.ptr h.next 0) h'=some (ws H)/\loadV (some 2) (.ptr (h.next+1) 0) h'=some (ws K):=fun {h'} g=>⟨loadV_two (by rw [g.same _ (by omega)]; exact r0),loadV_two (by rw [g.same _ (by omega)]; exact r1)⟩
 obtain ⟨h3,f3,g3⟩:=ws_size hNo (h:=h2) aH hH
 obtain ⟨h4,f4,g4⟩:=ws_size hNo (h:=h3) aK hK
 have a2:=ld (Gro.refl h2)
 have a3:=ld g3
 have g24:=g3.trans g4
 have a4:=ld g24
 by_cases e:H.length=K.length
 ·obtain ⟨v5,h5,f5,o5,g5,_⟩:=ws_list hNo (h:=h4) aH (fun x hx=>Nat.lt_trans (hH x hx) (by decide))
  have a5:=ld (g24.trans g5)
  obtain ⟨v6,h6,f6,o6,g6,_⟩:=ws_list hNo (h:=h5) aK (fun x hx=>Nat.lt_trans (hK x hx) (by decide))
  have f7:=cmp_list hNo (o5.at.gro g6:PmAt h6 v5 H) (o6.at:PmAt h6 v6 K) (by omega)
  simp (disch:=omega) only [RSe.down,a2.1,a2.2,a3.2,f3,f4,WDV_succ,WDV_zero,WDE_some,checks,lower,recheck,AOp.cls,AV.beq_refl,cond_true,true_and,neqF,a4.1,a4.2,f5,a5.2,f6,f7]
  refine ⟨(fun i hi=>by cases hi),_,rfl,?_,g2.trans (g24.trans (g5.trans g6))⟩
  unfold cmpS
  rw [if_neg (by omega)]; rfl
 ·obtain ⟨h5,f5,g5⟩:=ws_size hNo (h:=h4) aH hH
  have a5:=ld (g24.trans g5)
  obtain ⟨h6,f6,g6⟩:=ws_size hNo (h:=h5) aK hK
  have sb:bin .sub .no (.int .i64 ((H.length:Nat):Int)) (.int .i64 ((K.length:Nat):Int))=some (.int .i64 ((H.length:Int) - K.length)):=sub_i64 (by omega) (by omega)
  simp (disch:=omega) only [RSe.down,a2.1,a2.2,a3.2,f3,f4,WDV_succ,WDV_zero,WDE_some,checks,lower,recheck,AOp.cls,AV.beq_refl,cond_true,true_and,neqT,a4.1,a4.2,f5,a5.2,f6,sb]
  refine ⟨(fun i hi=>by cases hi),_,rfl,?_,g2.trans (g24.trans (g5.trans g6))⟩
  unfold cmpS
  rw [if_pos e]; rfl
end
end Go.AM
namespace Go.AM
open Go Go.GT
structure Srt2 (I:Oracle):Prop where
 srt:Srt I
 sets:∀ a h,I 196 a h=sort2J tab.get otab.get I0 a h
structure LatAt (h:AHeap) (il it:Nat) (v:AV) (L:List (List Nat)):Prop where
 lt:il < h.next
 get:h.get il=some (.cells [.ptr it 0,v] true)
 s:SsAt h v L
 vlt:∀ j,oid v=some j->j < h.next
theorem LatAt.gro {h h':AHeap} {il it:Nat} {v:AV} {L:List (List Nat)} (s:LatAt h il it v L) (g:Gro h h'):LatAt h' il it v L :=
 ⟨Nat.lt_of_lt_of_le s.lt g.le,by rw [g.same _ s.lt]; exact s.get,s.s.gro g,fun j hj=>Nat.lt_of_lt_of_le (s.vlt j hj) g.le⟩
theorem insert_sorted (F:List (List Nat)):∃ L:List (List Nat),L.Perm F/\L.Pairwise fun a b=>GT.less b a=false:=by
 refine ⟨F.mergeSort (fun a b=>!GT.less b a),List.mergeSort_perm _ _,?_⟩
 have:=List.pairwise_mergeSort (le:=fun a b=>!GT.less b a) (fun a b c h1 h2=>?_) (fun a b=>?_) F
 ·exact this.imp fun h=>by simpa using h
 ·simp only [Bool.not_eq_true'] at h1 h2 ⊢
  refine Bool.eq_false_iff.2 fun h3=>?_
  cases e:GT.less b a with
  | true=>rw [e] at h1; cases h1
  | false =>
   cases e2:GT.less a b with
   | true=>have:=less_trans h3 e2; rw [this] at h2; cases h2
   | false =>
    have:=less_total e e2
    subst this
    rw [h3] at h2; cases h2
 ·cases e:GT.less b a with
  | false=>simp
  | true =>
   have:GT.less a b=false:=Bool.eq_false_iff.2 fun h3=>by have:=less_trans e h3; rw [less_irr] at this; cases this
   simp [this]
theorem sort_sets {I : Oracle} (hS : Srt2 I) {h : AHeap} {v : AV} {F : List (List Nat)} (s : SsAt h v F) (hne : F ≠ []) (hl : F.length <= 512) (ha : ∀ H∈F,H.Pairwise (· < ·)/\∀ x∈H,x < 24) :
  ∃ L h',lim otab.get I (.fn 196) [v,.fn (.func 197) [] []] h=some (.tup [],h')/\L.Perm F/\(L.Pairwise fun a b=>GT.less b a=false)/\SsAt h' v L/\Chg (fun j=>oid v=some j) h h':=by
 rcases s with ⟨_,e,_⟩ | ⟨i,cap,rfl,hcap,h1,h2,h3⟩
 ·exact absurd (List.length_eq_zero_iff.1 e) hne
 ·obtain ⟨L,p1,p2⟩:=insert_sorted F
  have hcmp:∀ H∈F, ∀ K∈F, ∃ h1,lim otab.get I0 (.fn 197) (ws H :: ws K :: []) (roH h i)=some (.int .i64 (cmpS H K),h1):=fun H hH K hK=>by
   obtain ⟨h',e,_⟩:=find2_spec noI0 (h:=roH h i) (ha H hH).1 (ha K hK).1 (ha H hH).2 (ha K hK).2
   exact ⟨h',e⟩
  have hz:∀ H∈F, ∀ K∈F,cmpZ otab.get I0 197 [] (roH h i) (ws H) (ws K)=cmpS H K:=fun H hH K hK=>by
   obtain ⟨h',e⟩:=hcmp H hH K hK
   unfold cmpZ; rw [e]
  have hm:∀ a∈F.map ws, ∃ H∈F,ws H=a:=fun a h=>List.mem_map.1 h
  have K:Sort2OK otab.get I0 197 [] (roH h i) (F.map ws):=by
   refine ⟨ws_two F,fun a ha' b hb=>?_,fun a ha'=>?_,fun a ha' b hb c hc=>?_,fun a ha' b hb=>?_⟩
   ·obtain ⟨H,hH,rfl⟩:=hm a ha'
    obtain ⟨K,hK,rfl⟩:=hm b hb
    rw [hz H hH K hK]; exact hcmp H hH K hK
   ·obtain ⟨H,hH,rfl⟩:=hm a ha'
    rw [hz H hH H hH,cmpS_neg,less_irr]; decide
   ·obtain ⟨H,hH,rfl⟩:=hm a ha'
    obtain ⟨K,hK,rfl⟩:=hm b hb
    obtain ⟨M,hM,rfl⟩:=hm c hc
    rw [hz H hH K hK,hz K hK M hM,hz H hH M hM,cmpS_neg,cmpS_neg,cmpS_neg]
    exact less_trans
   ·obtain ⟨H,hH,rfl⟩:=hm a ha'
    obtain ⟨K,hK,rfl⟩:=hm b hb
    rw [hz H hH K hK,hz K hK H hH,cmpS_neg,cmpS_neg]
    intro k1 k2
    rw [less_total (Bool.eq_false_iff.2 k1) (Bool.eq_false_iff.2 k2)]
  have hx:Sort2At tab.get otab.get I0 h i 0 F.length 197 [] (c2 F) (F.map ws) (L.map ws):=by
   refine ⟨List.length_pos_iff.2 hne,by omega,List.length_map _,by rw [h1]; omega,?_,⟨_,rfl⟩,K,p1.map ws,?_⟩
   ·rw [List.drop_zero,List.take_of_length_le (by rw [h1]; exact Nat.le_refl _)]; rfl
   ·rw [List.pairwise_map]
    refine List.Pairwise.imp_of_mem (fun {a b} hA hB hab=>?_) p2
    rw [hz b (p1.mem_iff.1 hB) a (p1.mem_iff.1 hA),cmpS_neg,hab]; decide
  have e:=sort2J_eq (cap:=cap) h3 hx
  rw [<- hS.sets] at e
  have hl':L.length=F.length:=p1.length_eq
  have hc:(c2 F).take 0 ++ (cells2 (L.map ws) ++ (c2 F).drop (0+F.length * 2))=c2 L:=by
   rw [List.take_zero,List.nil_append,List.drop_eq_nil_of_le (by rw [h1]; omega),List.append_nil]; rfl
  rw [hc] at e
  refine ⟨L,_,lim_oracle e,p1,p2,.inr ⟨i,cap,by rw [hl'],by rw [hl']; exact hcap,c2_len,h2,AHeap.get_set_same _ _ _⟩,Chg.set (F:=fun j=>oid (.slice i 0 F.length cap)=some j) h rfl _⟩
end Go.AM
namespace Go.AM
open Go Go.GT
noncomputable def srt2:Oracle:=fun f a h=>if f=196 then sort2J tab.get otab.get I0 a h else srt f a h
theorem sort2J_plain {T0 T:FnTab} {I:Oracle} {args:List AV} {h:AHeap} {r:AV × AHeap} (he:sort2J T0 T I args h=some r) (l:Nat):AV.fn (.yield l) [] [] ∉ args:=by
 unfold sort2J at he
 split at he <;> first | (cases he; done) | skip
 intro hm
 rcases List.mem_cons.1 hm with e | e
 ·cases e
 ·rcases List.mem_cons.1 e with e | e
  ·cases e
  ·cases e
theorem srt2OK:IOK Go.Proofs.Tryz.prog srt2:=by
 have hs:=srtOK
 refine ⟨fun g args av h h' he ρ B w args' hs' ha=>?_,fun g args r h he l=>?_⟩
 ·unfold srt2 at he
  split at he
  ·rename_i hg
   subst hg
   exact sort2J_sound Go.Proofs.Tryz.sortSet Go.Proofs.Tryz.isAgg133 Go.Proofs.Tryz.sizeOf133 mixed tabOK otabOK IOK.none args av h h' he ρ B w args' hs' ha
  ·exact hs.1 g args av h h' he ρ B w args' hs' ha
 ·unfold srt2 at he
  split at he
  ·exact sort2J_plain he l
  ·exact hs.2 g args r h he l
theorem srt2_srt2:Srt2 srt2 :=
 ⟨⟨fun f a h h1 h2 h3 h4=>(if_neg h3).trans (srt_srt.no f a h h1 h2 h3 h4),fun a h=>(if_neg (by decide)).trans (srt_srt.ints a h),fun a h=>(if_neg (by decide)).trans (srt_srt.perms a h)⟩,fun _ _=>if_pos rfl⟩
end Go.AM
namespace Go.AM
open Go Go.GT Go.ChangeShapes Go.WideShapes Go.ChangeAt Go.RowKit Go.Joins Go.Proofs
section
variable {H:Type} {enc:TypeId × Value->H} {P:Program}
theorem trodAll_stays (hl:laidOutB P=true) {W W':World} {sp:Nat->Bool}:∀ {ts:List TypeId} {vs:List Value} {ds:List (DataW H)} {ps:List MemPlace},(∀ t∈ts,P.readableRec t=true/\t < P.types.size)->DataW.TrodAll enc P W 0 (fun _=>true) true ts vs ds ps->(∀ p∈ps,W.sameAt W' p)->(∀ p∈ps,sp p.block=true)->DataW.TrodAll enc P W' 0 sp true ts vs ds ps
 | [],vs,ds,ps,_,h,_,_=>by
  obtain ⟨rfl,rfl,rfl⟩:=trodAll_nil h
  exact trodAll_mk0
 | t :: ts,vs,ds,ps,hr,h,hsame,hs=>by
  obtain ⟨v,vs',d,ds',p,q,rfl,rfl,rfl,h0,r0⟩:=trodAll_cons h
  have h1:=hr t (.head _)
  exact trodAll_cons_mk (WideElems.Trod_stays hl h1.1 h1.2 h0 (fun x hx=>hsame x (List.mem_append.2 (.inl hx))) fun x hx=>hs x (List.mem_append.2 (.inl hx)))
   (trodAll_stays hl (fun t' ht=>hr t' (.tail _ ht)) r0 (fun x hx=>hsame x (List.mem_append.2 (.inr hx))) fun x hx=>hs x (List.mem_append.2 (.inr hx)))
end
section
variable {H:Type} {enc:TypeId × Value->H} {w:World} {ρ:Rho} {h:AHeap}
theorem cells24:Tryz.prog.cellsOf 24=2:=by kernel_rfl
theorem cells62:Tryz.prog.cellsOf 62=1:=by kernel_rfl
theorem cells3:Tryz.prog.cellsOf 3=1:=by kernel_rfl
theorem laid:laidOutB Tryz.prog=true:=by kernel_rfl
theorem group_in (hI : InitH Tryz.prog ρ h w) {v : Value} {d : DataW H} {p : List MemPlace} {r : Reach} {b0 : Nat} (hv : Value.okWide Tryz.prog w r b0 24 v) (h0 : DataW.Trod enc Tryz.prog w 0 (fun _=>true) true 24 v d p) :
  ∃ ρ' h' av n ls,Ext ρ ρ'/\InitH Tryz.prog ρ' h' w/\Gro h h'/\VR ρ' (.agg [.int .i64 n,av]) v/\LsAt h' av ls:=by
 obtain ⟨c0,c1,y0,y1,m,rfl,_,_,hy0,hy1⟩:=open_agg2 Tryz.underlying24 (by kernel_rfl) cells24 hv h0
 obtain ⟨n,e0,_,_⟩:=DataW.trod_int Tryz.underlying3 hy0
 simp only [List.cons.injEq,and_true] at e0
 subst e0
 obtain ⟨ρ',h',av,c,ls,h1,h2,h3,h4,h5,h6,h7⟩:=hI.lists Tryz.underlying22 Tryz.underlying62 Tryz.underlying3 cells62 cells3 hy1
 refine ⟨ρ',h',av,n,ls,h1,h2,h3,.agg (.cons (.int _ _) (.cons h4 .nil)),c,h5,h6,fun i a x hi hx=>?_⟩
 obtain ⟨a',l',k1,k2,_,k4,_⟩:=h7 i (List.getElem?_eq_some_iff.1 hx).1
 rw [k1] at hi; rw [k2] at hx
 cases hi; cases hx
 exact k4
end
theorem int_in {H:Type} {enc:TypeId × Value->H} {w:World} {t:TypeId} {k:IntKind} (ht:Tryz.prog.underlying t=some (.int k)) {v:Value} {d:DataW H} {p:List MemPlace} {r:Reach} {b0:Nat} (hv:Value.okWide Tryz.prog w r b0 t v) (h0:DataW.Trod enc Tryz.prog w 0 (fun _=>true) true t v d p):∃ n,v = .int k n/\(Lit.int k n).wf=true:=by
 obtain ⟨n,h1,_,_,h4⟩:=open_int ht hv h0
 exact ⟨n,h1,h4⟩
end Go.AM
namespace Go.AM
open Go Go.GT
theorem bytes_tbl {n:Nat} {f:Nat->Nat} (h:∀ j,j < n->f j < 256):bytesOf (tbl n fun j=>.int .u8 (f j:Int))=some ((List.range n).map f):=by
 have key:∀ l:List Nat,(∀ j∈l,f j < 256)->bytesOf (l.map fun j=>AV.int .u8 (f j:Int))=some (l.map f):=fun l=>by
  induction l with
  | nil=>intro _; rfl
  | cons a l ih =>
   intro hl
   have h1:=ih fun j hj=>hl j (.tail _ hj)
   rw [List.map_cons,List.map_cons]
   show (match bytesOf (l.map fun j=>AV.int .u8 (f j:Int)) with | some l=>some ((f a:Int).toNat % 256 :: l) | none=>none)=_
   rw [h1,Int.toNat_natCast,Nat.mod_eq_of_lt (hl a (.head _))]
 exact key _ fun j hj=>h j (List.mem_range.1 hj)
section
variable {I:Oracle} {h:AHeap} {va:AV} {p:Pm} {n f:Nat}
theorem key_fn (hf:otab.get f=some of201) (hI:∀ a h,I f a h=none) (ha:PmAt h va p) (hp:PV n p) (hn:n <= 20):∃ h',lim otab.get I (.fn f) [va] h=some (.str p,h')/\Gro h h':=by
 refine (lim_walk_ex (T:=otab.get) (I:=I) (f:=f) (fn:=of201) hf (a:=[va]) (h:=h) (P:=fun a h'=>a = .str p/\Gro h h') (hI _ _) ?_) |> fun ⟨a,h',e,q1,q2⟩=>⟨h',by rw [e,q1],q2⟩
 show WK _ _ [] ⟨[va,aundef,aundef,aundef,aundef,aundef],h⟩ _
 dsimp only [of201,Z.t,Z.f,Z.i,Z.q,Z.m,Z.l,Z.b,Z.c,Z.w]
 have hlen:∀ {h':AHeap},lenV 1 va h'=some (.int .i64 (n:Int)):=fun {h'}=>by rw [ha.len,hp.len]
 simp (disch:=omega) only [RSe.down,hlen,mkslV_nat]
 have q0:(h.push (.cells (repl n [.int .u8 0]) true)).get h.next=some (.cells (tbl n fun j=>.int .u8 ((if j < 0 then ap p j else 0:Nat):Int)) true):=by
  rw [AHeap.get_push_same,tbl_repl]; congr 2
 refine WK_loopJ (fun k s=>k <= n/\∃ y2 y3 h',s=⟨[va,.int .i64 (k:Int),y2,y3,.slice h.next 0 n (.exact n),.int .i64 (n:Int)],h'⟩/\Gro h h'/\h.next < h'.next/\h'.get h.next=some (.cells (tbl n fun j=>.int .u8 ((if j < k then ap p j else 0:Nat):Int)) true)) n
  ⟨Nat.zero_le _,_,_,_,rfl,Gro.push h _,Nat.lt_succ_self _,q0⟩ ?_
 rintro k hk _ ⟨_,y2,y3,h',rfl,g,hx,q⟩ next
 by_cases hkn:k < n
 ·have hkp:k < p.length:=by rw [hp.len]; exact hkn
  have i1:=(ha.gro g).iaddr (q := .i64) hkp
  have i2:=(ha.gro g).load hkp
  have hlt:=hp.ap_lt hkn
  have e1:toIntV .u8 (.int .i64 (ap p k:Int))=some (.int .u8 (ap p k:Int)):=by
   show some (AV.int .u8 ((ap p k:Int) % 256))=_
   rw [Int.emod_eq_of_lt (by omega) (by omega)]
  have e2:=stV_tbl (x := .int .u8 (ap p k:Int)) q hkn rfl
  simp (disch:=omega) only [RSe.down,lssT,i1,i2,e1,iaddrS,e2,add1N]
  refine next hkn _ ⟨by omega,_,_,_,rfl,g.set (Nat.le_refl _) _,hx,?_⟩
  rw [AHeap.get_set_same]
  congr 2
  refine tbl_congr fun j _=>?_
  by_cases ej:j=k
  ·rw [if_pos ej,ej,if_pos (Nat.lt_succ_self _)]
  ·rw [if_neg ej]
   by_cases hj:j < k
   ·rw [if_pos hj,if_pos (by omega)]
   ·rw [if_neg hj,if_neg (by omega)]
 ·obtain rfl:k=n:=by omega
  have hb:bytesOf (tbl k fun j=>.int .u8 ((if j < k then ap p j else 0:Nat):Int))=some p:=by
   rw [bytes_tbl fun j hj=>by rw [if_pos hj]; have:=hp.ap_lt hj; omega]
   congr 1
   refine List.ext_getElem? fun j=>?_
   by_cases hj:j < k
   ·rw [List.getElem?_map,List.getElem?_range hj,get?_ap (by rw [hp.len]; exact hj)]
    show some (if j < k then ap p j else 0)=_
    rw [if_pos hj]
   ·rw [List.getElem?_eq_none (by rw [List.length_map,List.length_range]; omega),List.getElem?_eq_none (by rw [hp.len]; omega)]
  have hc:cut (tbl k fun j=>AV.int .u8 ((if j < k then ap p j else 0:Nat):Int)) 0 k=some (tbl k fun j=>AV.int .u8 ((if j < k then ap p j else 0:Nat):Int)):=by
   have:=cut_all (tbl k fun j=>AV.int .u8 ((if j < k then ap p j else 0:Nat):Int))
   rwa [tbl_len] at this
  have et:∀ tm:List AV,nth tm 4 = .slice h.next 0 k (.exact k)->evalQ (.toStr (.tmp 4)) tm h'=some (.str p):=fun tm e=>by
   show (match ev tm (.tmp 4) with
    | .nils=>some (AV.str [])
    | .slice i o n _=>match cellsOf h' i with
     | some c=>match cut c o n with
      | some r=>match bytesOf r with | some l=>some (AV.str l) | none=>none
      | none=>none
     | none=>none
    | _=>none)=_
   rw [ev_tmp,e]
   dsimp only
   rw [cellsOf_get q]
   dsimp only
   rw [hc]
   dsimp only
   rw [hb]
  simp (disch:=omega) only [RSe.down,lssF]
  rw [et _ rfl]
  simp (disch:=omega) only [RSe.down]
  exact ⟨(fun i hi=>by cases hi),_,rfl,rfl,g⟩
end
section
variable {I:Oracle} (hNo:NoI I) {h:AHeap} {va:AV} {p:Pm} {n:Nat}
include hNo
theorem ckey_spec (ha:PmAt h va p) (hp:PV n p) (hn:n <= 20):∃ h',lim otab.get I (.fn 201) [va] h=some (.str p,h')/\Gro h h' :=
 key_fn rfl (fun _ _=>hNo.at _ _ (by decide) (by decide) (by decide)) ha hp hn
end
end Go.AM
namespace Go.AM
open Go Go.GT
def smp (E:List (Pm × Nat)):List (AV × AV):=E.map fun e=>(.str e.1,.int .i64 (e.2:Int))
theorem key_str (p q:Pm):keyEq (.one 2) (.str p) (.str q)=some (decide (p=q)):=rfl
theorem find_smp (p:Pm):∀ (E:List (Pm × Nat)) (i:Nat),(∀ v,E.lookup p=some v->∃ j,findKey (.one 2) (.str p) (smp E) i=some (some (j,.int .i64 (v:Int))))/\(E.lookup p=none->findKey (.one 2) (.str p) (smp E) i=some none)
 | [],i=>⟨(fun v h=>by cases h),fun _=>rfl⟩
 | (b,x) :: E,i=>by
  have e0:findKey (.one 2) (.str p) (smp ((b,x) :: E)) i=(match keyEq (.one 2) (.str p) (.str b) with | some true=>some (some (i,.int .i64 (x:Int))) | some false=>findKey (.one 2) (.str p) (smp E) (i+1) | none=>none):=rfl
  rw [e0,key_str]
  obtain ⟨ih1,ih2⟩:=find_smp p E (i+1)
  by_cases e:p=b
  ·subst e
   rw [decide_eq_true rfl,List.lookup_cons_self]
   exact ⟨fun v hv=>⟨i,by cases hv; rfl⟩,fun hv=>by cases hv⟩
  ·rw [decide_eq_false e]
   have hb:(p == b)=false:=by rw [Bool.eq_false_iff]; intro hh; exact e (eq_of_beq hh)
   rw [List.lookup_cons,hb]
   exact ⟨ih1,ih2⟩
section
variable {tm:List AV} {h:AHeap} {im:Nat} {E:List (Pm × Nat)} (hg:h.get im=some (.map (smp E))) {x k:AOpd} {p:Pm} (hx:ev tm x = .map im) (hk:ev tm k = .str p)
include hg hx hk
theorem lookup_ok {v:Nat} (hv:E.lookup p=some v):evalQ (.lookup (.one 2) (.int .i64 0) true x k) tm h=some (.tup [.int .i64 (v:Int),.bool true]):=by
 obtain ⟨j,j1⟩:=(find_smp p E 0).1 v hv
 have hl:lookK (.one 2) (.str p) (smp E)=findKey (.one 2) (.str p) (smp E) 0:=rfl
 simp only [evalQ,hx,hk,hg,hl,j1]; rfl
theorem lookup_no (hv:E.lookup p=none):evalQ (.lookup (.one 2) (.int .i64 0) true x k) tm h=some (.tup [.int .i64 0,.bool false]):=by
 have j1:=(find_smp p E 0).2 hv
 have hl:lookK (.one 2) (.str p) (smp E)=findKey (.one 2) (.str p) (smp E) 0:=rfl
 simp only [evalQ,hx,hk,hg,hl,j1]; rfl
theorem lookup_val {v:Nat} (hv:E.lookup p=some v):evalQ (.lookup (.one 2) (.int .i64 0) false x k) tm h=some (.int .i64 (v:Int)):=by
 obtain ⟨j,j1⟩:=(find_smp p E 0).1 v hv
 have hl:lookK (.one 2) (.str p) (smp E)=findKey (.one 2) (.str p) (smp E) 0:=rfl
 simp only [evalQ,hx,hk,hg,hl,j1]; rfl
theorem mupd_new {C:CallT} {w:AOpd} {v:Nat} (hw:ev tm w = .int .i64 (v:Int)) (hv:E.lookup p=none):evalE (.mupd (.one 2) x k w) C tm h=some (aundef,h.set im (.map (smp (E ++ [(p,v)])))):=by
 have j1:=(find_smp p E 0).2 hv
 have hl:lookK (.one 2) (.str p) (smp E)=findKey (.one 2) (.str p) (smp E) 0:=rfl
 simp only [evalE,hx,hk,hg,hl,j1,hw]
 have:smp (E ++ [(p,v)])=smp E ++ [(.str p,.int .i64 (v:Int))]:=by unfold smp; rw [List.map_append]; rfl
 rw [this]
end
end Go.AM
namespace Go.AM
open Go Go.GT
theorem lim_call2 {I:Oracle} {hh:AHeap} {a b g:Nat} {tm cs:List AV} {x:AV} {r:AV × AHeap} (e1:nth tm a = .fn (.func g) [] cs) (e2:nth tm b=x) (f:lim otab.get I (.fn g) (x :: cs) hh=some r):evalE (.call (.tmp a) [.tmp b]) (lim otab.get I) tm hh=some r:=by
 rw [evalE_callV (g:=g) (fs:=[]) (cs:=cs) (show ev tm (.tmp a)=_ by rw [ev_tmp]; exact e1)]
 have:evs tm [.tmp b]=[x]:=by show [ev tm (.tmp b)]=_; rw [ev_tmp,e2]
 rw [this]; exact f
theorem sorted_subs {N:Nat} {m:Nat->Nat->Nat} {F L:List (List Nat)} (p:L.Perm F) (hs:L.Pairwise fun a b=>GT.less b a=false) (nd:F.Nodup) (hm:∀ H,H∈F ↔ Sub N m H):SubsL N m L:=by
 refine ⟨?_,fun H=>by rw [p.mem_iff]; exact hm H⟩
 refine (hs.and (p.nodup_iff.2 nd)).imp fun {a b} ⟨h1,h2⟩=>?_
 cases e:GT.less a b with
 | true=>rfl
 | false=>exact absurd (less_total e h1) h2
section
variable {I:Oracle} (hS:Srt2 I) {h:AHeap}
include hS
theorem find_spec {it N : Nat} {m : Nat->Nat->Nat} {va vm : AV} (hit : it < h.next) (hva : loadV none (.ptr it 2) h=some va) (hvl : ∀ h' : AHeap,lenV 1 va h'=some (.int .i64 (N : Int))) (hvm : loadV none (.ptr it 3) h=some vm) (ht : PmsAt h vm (rowsT N m)) (hT : TG N m) (hN : N <= 24) :
  ∃ il v L h',lim otab.get I (.fn 125) [.ptr it 0] h=some (.tup [.ptr il 0,.int .i64 0],h')/\LatAt h' il it v L/\SubsL N m L/\Gro h h':=by
 have hNo:=hS.srt.no
 refine (lim_walk_ex (T:=otab.get) (I:=I) (f:=125) (fn:=of125) rfl (a:=[.ptr it 0]) (h:=h) (P:=fun a h'=>∃ il v L,a = .tup [.ptr il 0,.int .i64 0]/\LatAt h' il it v L/\SubsL N m L/\Gro h h') (hNo.at _ _ (by decide) (by decide) (by decide)) ?_) |> fun ⟨a,h',e,il,v,L,q1,q2⟩=>⟨il,v,L,h',by rw [e,q1],q2⟩
 show WK _ _ [] ⟨[.ptr it 0,aundef,aundef,aundef,aundef,aundef,aundef,aundef,aundef,aundef,aundef],h⟩ _
 dsimp only [of125,Z.t,Z.f,Z.i,Z.q,Z.m,Z.l,Z.b,Z.c,Z.w]
 have hb0:∀ (tm:List AV) (hh:AHeap),evalQ (.build [.int .u64 0,.int .u64 0] []) tm hh=some (.agg [.int .u64 0,.int .u64 0]):=fun _ _=>rfl
 have rk:((h.push (.map [])).push (.cells [.nilm] true)).get (h.next+1)=some (.cells [.nilm] true):=AHeap.get_push_same (h.push _) _
 have e1:stV 1 (.ptr (h.next+1) 0) (.map h.next) ((h.push (.map [])).push (.cells [.nilm] true))=some (aundef,((h.push (.map [])).push (.cells [.nilm] true)).set (h.next+1) (.cells [.map h.next] true)):=stV_at rk (show 0 < [AV.nilm].length from Nat.zero_lt_one) rfl
 have g1:Gro h (((h.push (.map [])).push (.cells [.nilm] true)).set (h.next+1) (.cells [.map h.next] true)):=((Gro.push h _).trans (Gro.push _ _)).set (Nat.le_succ _) _
 have m1:(((h.push (.map [])).push (.cells [.nilm] true)).set (h.next+1) (.cells [.map h.next] true)).get h.next=some (.map []):=by
  rw [AHeap.get_set_ne _ _ (by omega),AHeap.get_push_lt _ _ (show h.next < h.next+1 by omega),AHeap.get_push_same]
 have k1:(((h.push (.map [])).push (.cells [.nilm] true)).set (h.next+1) (.cells [.map h.next] true)).get (h.next+1)=some (.cells [.map h.next] true):=AHeap.get_set_same _ _ _
 have x1:(((h.push (.map [])).push (.cells [.nilm] true)).set (h.next+1) (.cells [.map h.next] true)).next=h.next+2:=rfl
 simp (disch:=omega) only [RSe.down,AHeap.next_push,e1]
 generalize (((h.push (.map [])).push (.cells [.nilm] true)).set (h.next+1) (.cells [.map h.next] true))=h1 at g1 m1 k1 x1 ⊢
 have ks2:KS (h1.push (.cells [.nils] true)) h.next (h.next+1) h.next (h.next+2) .nils []:=by
  refine ⟨by rw [AHeap.get_push_lt _ _ (by omega)]; exact k1,by rw [AHeap.get_push_lt _ _ (by omega)]; exact m1,?_,Own.nil,by omega,by omega,by omega,(fun j hj=>by cases hj),by omega,?_⟩
  ·have:=AHeap.get_push_same h1 (.cells [.nils] true)
   rw [x1] at this; exact this
  ·rw [AHeap.next_push,x1]; omega
 have g2:Gro h (h1.push (.cells [.nils] true)):=g1.trans (Gro.push _ _)
 simp (disch:=omega) only [RSe.down,hb0,x1]
 generalize (h1.push (.cells [.nils] true))=h2 at ks2 g2 ⊢
 clear m1 k1 x1 g1 e1 rk
 obtain ⟨h3,f3,g3⟩:=with_bits hNo (h:=h2) (a:=0) (b:=0) (i:=0) (by decide) (by decide)
 have f3':lim otab.get I (.fn 184) [.agg [.int .u64 0,.int .u64 0],.int .i64 0] h2=some (ws [0],h3):=f3
 have ks3:=ks2.gro g3
 obtain ⟨v4,h4,f4,ks4,c4⟩:=add_spec hNo ks3 [0] (Nat.le_trans g2.le g3.le) (Nat.zero_le _) (fun K hK=>by cases hK)
 have g4:Gro h h4:=(g2.trans g3).chg_new c4 fun j hj=>hj
 rw [if_neg (by simp)] at ks4 f4
 have d4:decide ((([]:List (List Nat)) ++ [[0]]).length <= 512)=true:=by decide
 rw [d4] at f4
 simp (disch:=omega) only [RSe.down,f3']
 rw [lim_call2 (g:=195) rfl rfl f4]
 simp (disch:=omega) only [RSe.down]
 have ld:∀ {h':AHeap},Gro h h'->∀ {o:Nat} {v:AV},loadV none (.ptr it o) h=some v->loadV none (.ptr it o) h'=some v:=fun g _ _ e=>by
  rw [loadV_same (F:=fun _=>False) g.chg hit (fun hf=>hf)]; exact e
 refine WK_loopM (fun z s=>∃ y1 y2 y5 y6 y7 y8 y9 v F i h',s=⟨[.ptr it 0,y1,y2,.int .i64 ((i:Nat):Int),.ptr (h.next+2) 0,y5,y6,y7,y8,y9,.fn (.func 195) [] [.ptr (h.next+1) 0,.ptr (h.next+2) 0]],h'⟩/\Gro h h'/\KS h' h.next (h.next+1) h.next (h.next+2) v F/\SBFS N m F i 0/\i <= F.length/\z=512 - i) ?_ _ _
  ⟨_,_,_,_,_,_,_,v4,[[0]],0,h4,rfl,g4,ks4,SBFS.start hT,Nat.zero_le _,rfl⟩
 rintro z _ ⟨y1,y2,y5,y6,y7,y8,y9,v,F,i,h',rfl,g,ks,sb,hi,rfl⟩ next
 have hfew:∀ {F:List (List Nat)} {i x:Nat},SBFS N m F i x->F.length <= 512:=fun s=>subs_few hT hN s.nd s.sub
 have hFl:=hfew sb
 have lq:loadV none (.ptr (h.next+2) 0) h'=some v:=loadV_get ks.q rfl
 by_cases hin:i < F.length
 ·obtain ⟨H,hH⟩:=get_some hin
  simp (disch:=omega) only [RSe.down,lq,ks.s.len,lssT,ld g hva,hvl]
  refine WK_loopJ (fun x s=>x <= N/\∃ y1 y5 y6 y7 y8 v F h',s=⟨[.ptr it 0,y1,.int .i64 (x:Int),.int .i64 (i:Int),.ptr (h.next+2) 0,y5,y6,y7,y8,.int .i64 (N:Int),.fn (.func 195) [] [.ptr (h.next+1) 0,.ptr (h.next+2) 0]],h'⟩/\Gro h h'/\KS h' h.next (h.next+1) h.next (h.next+2) v F/\SBFS N m F i x/\F[i]?=some H) N
   ⟨Nat.zero_le _,_,_,_,_,_,v,F,h',rfl,g,ks,sb,hH⟩ ?_
  rintro x hx _ ⟨_,z1,z5,z6,z7,z8,v5,F5,h5,rfl,g5,ks5,sb5,hH5⟩ next2
  have hi5:=(List.getElem?_eq_some_iff.1 hH5).1
  have hF5:=hfew sb5
  by_cases hxN:x < N
  ·have hHs:=sb5.sub H (List.mem_of_getElem? hH5)
   have lq5:loadV none (.ptr (h.next+2) 0) h5=some v5:=loadV_get ks5.q rfl
   have i5:=ks5.s.iaddr (q := .i64) hi5
   have l5:=ks5.s.load hH5
   obtain ⟨h6,f6,g6⟩:=ws_has hNo (h:=h5) (H:=H) (fun y hy=>by have:=hHs.lt y hy; omega) (i:=x) (by omega)
   by_cases hm:x∈H
   ·rw [decide_eq_true hm] at f6
    simp (disch:=omega) only [RSe.down,lssT,lq5,i5,l5,f6,not_bool,Bool.not_true,add1N]
    exact next2 hxN _ ⟨by omega,_,_,_,_,_,v5,F5,h6,rfl,g5.trans g6,ks5.gro g6,sb5.found hH5 (by rw [clo_app_mem hT hHs hm]; exact List.mem_of_getElem? hH5),hH5⟩
   ·rw [decide_eq_false hm] at f6
    have ks6:=ks5.gro g6
    have lq6:loadV none (.ptr (h.next+2) 0) h6=some v5:=loadV_get ks6.q rfl
    have l6:=ks6.s.load hH5
    have g7:=Gro.push h6 (.cells [.int .i64 (x:Int)] true)
    have p7:PmAt (h6.push (.cells [.int .i64 (x:Int)] true)) (.slice h6.next 0 1 (.exact 1)) [x]:=tab_at (Nat.lt_succ_self _) (AHeap.get_push_same h6 _) rfl (Nat.le_refl _)
    have g57:=(g5.trans g6).trans g7
    obtain ⟨h8,f8,g8⟩:=ws_closure hNo (h:=h6.push (.cells [.int .i64 (x:Int)] true)) (Nat.lt_of_lt_of_le hit g57.le) (ld g57 hvm) (PmsAt.gro' ht g57) hT (by omega) hHs.asc hHs.lt p7 (fun y hy=>by rw [List.mem_singleton.1 hy]; exact hxN) (show 1 <= 1000 by decide)
    have ks8:=(ks6.gro g7).gro g8
    have hsub:=(clo_app hT hHs hxN).1
    obtain ⟨v9,h9,f9,ks9,c9⟩:=add_spec hNo ks8 (clo N m (H ++ [x])) (g57.trans g8).le hF5 (fun K hK e=>wd_inj hsub.asc (sb5.sub K hK).asc e)
    have g9:Gro h h9:=(g57.trans g8).chg_new c9 fun j hj=>hj
    have bs:∀ tm:List AV,nth tm 8 = .int .i64 (x:Int)->evalA (.bslice 1 1 [.int .i64 0] [(0,.tmp 8)]) tm h6=some (.cells [.int .i64 (x:Int)] true,.slice h6.next 0 1 (.exact 1)):=fun tm e=>bslice1 (by rw [ev_tmp]; exact e) rfl
    by_cases hc:clo N m (H ++ [x])∈F5
    ·rw [if_pos hc] at f9 ks9
     rw [decide_eq_true hF5] at f9
     simp (disch:=omega) only [RSe.down,lssT,lq5,i5,l5,f6,not_bool,Bool.not_false,lq6,l6,f8]
     rw [lim_call2 (g:=195) rfl rfl f9]
     simp (disch:=omega) only [RSe.down,not_bool,Bool.not_true,add1N]
     exact next2 hxN _ ⟨by omega,_,_,_,_,_,v9,F5,h9,rfl,g9,ks9,sb5.found hH5 hc,hH5⟩
    ·rw [if_neg hc] at f9 ks9
     have sb9:=sb5.new hT hH5 hxN hc
     rw [decide_eq_true (hfew sb9)] at f9
     simp (disch:=omega) only [RSe.down,lssT,lq5,i5,l5,f6,not_bool,Bool.not_false,lq6,l6,f8]
     rw [lim_call2 (g:=195) rfl rfl f9]
     simp (disch:=omega) only [RSe.down,not_bool,Bool.not_true,add1N]
     exact next2 hxN _ ⟨by omega,_,_,_,_,_,v9,_,h9,rfl,g9,ks9,sb9,by rw [List.getElem?_append_left hi5]; exact hH5⟩
  ·obtain rfl:N=x:=by omega
   simp (disch:=omega) only [RSe.down,lssF,add1N]
   exact next (512 - (i+1)) _ (by omega) ⟨_,_,_,_,_,_,_,v5,F5,i+1,h5,rfl,g5,ks5,sb5.next,by omega,rfl⟩
 ·obtain rfl:F.length=i:=by omega
  have hmem:=sb.finish hT
  have hne:F ≠ []:=fun e=>by have:=sb.one; rw [e] at this; cases this
  obtain ⟨L,h5,f5,p5,q5,s5,c5⟩:=sort_sets hS ks.s hne hFl fun H hH=>⟨(sb.sub H hH).asc,fun x hx=>Nat.lt_of_lt_of_le ((sb.sub H hH).lt x hx) hN⟩
  have g5:Gro h h5:=g.chg_new c5 fun j hj=>(ks.vk j hj).2.2.2
  have lq5:loadV none (.ptr (h.next+2) 0) h5=some v:=by
   rw [loadV_same c5 ks.lt.2.2 fun e=>(ks.vk _ e).2.2.1 rfl]; exact lq
  have hv1:v.cells=[v]:=scalar_cells (by rcases ks.s with ⟨q,_⟩ | ⟨_,_,q,_⟩ <;> rw [q] <;> rfl)
  have hbl:∀ tm:List AV,nth tm 0 = .ptr it 0->nth tm 1=v->evalQ (.build [.nilp,.nils] [(0,1,.tmp 0),(1,1,.tmp 1)]) tm h5=some (.agg [.ptr it 0,v]):=fun tm e1 e2=>by
   simp only [evalQ,fills,ev_tmp,e1,e2,hv1]; rfl
  have hcl:(AV.agg [.ptr it 0,v]).cells=[.ptr it 0,v]:=rfl
  simp (disch:=omega) only [RSe.down,lq,ks.s.len,lssF,f5,lq5]
  rw [hbl _ rfl rfl]
  simp (disch:=omega) only [RSe.down,hcl]
  refine ⟨(fun i hi=>by cases hi),_,rfl,h5.next,v,L,rfl,⟨Nat.lt_succ_self _,AHeap.get_push_same _ _,s5.gro (Gro.push _ _),fun j hj=>?_⟩,sorted_subs p5 q5 sb.nd hmem,g5.trans (Gro.push _ _)⟩
  have:=Own.lt s5 hj
  exact Nat.lt_succ_of_lt this
end
end Go.AM
namespace Go.AM
open Go Go.GT
section
variable {C:CallT} {K:List Fr} {Q:AX->St->Prop} {op:AOp} {m:Nat} {d:Option Nat} {r:List (AOper × Nat)} {tm:List AV} {h:AHeap}
def WGD (C:CallT) (v:AV) (b:Bool) (d:Option Nat) (op:AOp) (m:Nat) (r:List (AOper × Nat)) (K:List Fr) (tm:List AV) (h:AHeap) (Q:AX->St->Prop):Prop:=match v with
 | .bool c=>if (c == b)=true then WDs C ((⟨d,op,none⟩,m) :: r) [] K ⟨tm,h⟩ Q else WDs C r [] K ⟨putD tm d aundef,h⟩ Q
 | _=>WDs C r [] K ⟨putD tm d aundef,h⟩ Q
theorem WGD_tt:WGD C (.bool true) true d op m r K tm h Q ↔ WDs C ((⟨d,op,none⟩,m) :: r) [] K ⟨tm,h⟩ Q:=by simp [WGD]
theorem WGD_ff:WGD C (.bool false) false d op m r K tm h Q ↔ WDs C ((⟨d,op,none⟩,m) :: r) [] K ⟨tm,h⟩ Q:=by simp [WGD]
theorem WGD_tf:WGD C (.bool true) false d op m r K tm h Q ↔ WDs C r [] K ⟨putD tm d aundef,h⟩ Q:=by simp [WGD]
theorem WGD_ft:WGD C (.bool false) true d op m r K tm h Q ↔ WDs C r [] K ⟨putD tm d aundef,h⟩ Q:=by simp [WGD]
theorem WDs_g {t:Nat} {b:Bool}:WDs C ((⟨d,op,some (t,b)⟩,m) :: r) [] K ⟨tm,h⟩ Q ↔ WGD C (nth tm t) b d op m r K tm h Q:=by
 have e:runDraw ((⟨d,op,some (t,b)⟩,m) :: r) C ⟨tm,h⟩ []=if wanted tm (some (t,b))=true then runDraw ((⟨d,op,none⟩,m) :: r) C ⟨tm,h⟩ [] else runDraw r C ⟨putD tm d aundef,h⟩ []:=by
  rw [runDraw_cons,runDraw_cons]
  by_cases hw:wanted tm (some (t,b))=true
  ·rw [if_pos hw,if_pos hw,if_pos (show wanted tm none=true from rfl)]
   cases hc:op.cls with
   | q=>rw [step1_q hc,step1_q hc]; rfl
   | a=>rw [step1_a hc,step1_a hc]; rfl
   | e=>rw [step1_e hc,step1_e hc]
  ·rw [if_neg hw,if_neg hw]
   dsimp only
   cases op.cls <;> rfl
 have e2:wanted tm (some (t,b))=(match nth tm t with | .bool c=>c == b | _=>false):=rfl
 unfold WDs
 rw [e,e2]
 generalize nth tm t=v
 cases v with
 | bool c =>
  show (∃ s',(if (c == b)=true then _ else _)=some s'/\_) ↔ (if (c == b)=true then _ else _)
  by_cases hc:(c == b)=true
  ·rw [if_pos hc,if_pos hc]; exact Iff.rfl
  ·rw [if_neg hc,if_neg hc]; exact Iff.rfl
 | _=>exact Iff.rfl
end
def RSf:=PLift.up (And.intro @RSe.down (And.intro @WDs_g (And.intro @WGD_tt (And.intro @WGD_ff (And.intro @WGD_tf (And.intro @WGD_ft (And.intro @WDV_zero (And.intro @WDE_none (And.intro @WDs_build @WDs_append)))))))))
structure OkG (d:Int) (ls:List (List Int)) (l:List Pm):Prop where
 ok:groupErr d ls=0
 el:IsEl d.toNat (gS ls) l
 few:l.length <= 24
theorem OkG.tg {d:Int} {ls:List (List Int)} {l:List Pm} (o:OkG d ls l):TG l.length (op l):=by
 obtain ⟨n,rfl,_,_,_,hS⟩:=group_of_ok o.ok
 exact o.el.tg hS
section
variable {I:Oracle} (hS:Srt2 I) {h:AHeap}
include hS
theorem all_ok {vg : AV} {ls : List (List Int)} (hg : LsAt h vg ls) {d : Int} {l : List Pm} (o : OkG d ls l) :
  ∃ il it v L h',lim otab.get I (.fn 100) [.agg [.int .i64 d,vg]] h=some (.tup [.ptr il 0,.int .i64 0],h')/\LatAt h' il it v L/\TabAt h' it d vg l/\SubsL l.length (op l) L/\Gro h h':=by
 have hNo:=hS.srt.no
 have g1:=Gro.push h (.cells [.int .i64 d,vg] true)
 have b1:=box_all (h:=h) (c:=[.int .i64 d,vg]) (r:=true) (Gro.refl _) (n:=2) rfl
 have hl:=o.few
 obtain ⟨it,h2,f2,T2,g2⟩:=tabulate_spec hS.srt (hg.gro g1) o.ok o.el (by omega)
 obtain ⟨va,a1,a2⟩:=T2.all
 obtain ⟨vm,m1,m2⟩:=T2.mul
 obtain ⟨il,v,L,h3,f3,A3,s3,g3⟩:=find_spec hS T2.lt a1 (fun h'=>a2.len) m1 m2 o.tg hl
 refine (lim_walk_ex (T:=otab.get) (I:=I) (f:=100) (fn:=of100) rfl (a:=[.agg [.int .i64 d,vg]]) (h:=h) (P:=fun w h'=>∃ il it v L,w = .tup [.ptr il 0,.int .i64 0]/\LatAt h' il it v L/\TabAt h' it d vg l/\SubsL l.length (op l) L/\Gro h h') (hNo.at _ _ (by decide) (by decide) (by decide)) ?_) |> fun ⟨w,h',e,il,it,v,L,q1,q2⟩=>⟨il,it,v,L,h',by rw [e,q1],q2⟩
 show WK _ _ [] ⟨[.agg [.int .i64 d,vg],aundef,aundef],h⟩ _
 dsimp only [of100,Z.t,Z.f,Z.i,Z.q,Z.m,Z.l,Z.b,Z.c,Z.w]
 simp (disch:=omega) only [RSe.down,b1,f2,neqF,f3]
 exact ⟨(fun i hi=>by cases hi),_,rfl,il,it,v,L,rfl,A3,T2.gro g3,s3,g1.trans (g2.trans g3)⟩
end
section
variable {I:Oracle} (hNo:NoI I) {h:AHeap} {il it:Nat} {v:AV} {L:List (List Nat)}
theorem LatAt.tab (A:LatAt h il it v L):loadV none (.ptr il 0) h=some (.ptr it 0):=loadV_get A.get rfl
theorem LatAt.subs (A:LatAt h il it v L):loadV none (.ptr il 1) h=some v:=loadV_get A.get rfl
include hNo
theorem numbers_spec (A : LatAt h il it v L) (hL : L.length <= 512) {g : Nat} {cs : List AV} {p : Nat->Bool} (hp : ∀ (h1 : AHeap) (k : Nat),Gro h h1->k < L.length->∃ h2,lim otab.get I (.fn g) (ws (lk L k) :: cs) h1=some (.bool (p k),h2)/\Gro h1 h2) :
  ∃ v' h',lim otab.get I (.fn 108) [.ptr il 0,.fn (.func g) [] cs] h=some (v',h')/\PmAt h' v' ((List.range L.length).filter p)/\Gro h h'/\∀ j,oid v'=some j->h.next <= j:=by
 refine (lim_walk_ex (T:=otab.get) (I:=I) (f:=108) (fn:=of108) rfl (a:=[.ptr il 0,.fn (.func g) [] cs]) (h:=h) (P:=fun v' h'=>PmAt h' v' ((List.range L.length).filter p)/\Gro h h'/\∀ j,oid v'=some j->h.next <= j) (hNo.at _ _ (by decide) (by decide) (by decide)) ?_)
 show WK _ _ [] ⟨[.ptr il 0,.fn (.func g) [] cs,aundef,aundef,aundef,aundef,aundef],h⟩ _
 dsimp only [of108,Z.t,Z.f,Z.i,Z.q,Z.m,Z.l,Z.b,Z.c,Z.w]
 simp (disch:=omega) only [RSe.down,A.subs,A.s.len]
 refine WK_loopJ (fun k s=>k <= L.length/\∃ y2 v3 y4 h',s=⟨[.int .i64 (k:Int),.fn (.func g) [] cs,y2,v3,y4,v,.int .i64 (L.length:Int)],h'⟩/\Gro h h'/\Own 1 h' v3 ((List.range k).filter p).length (pc ((List.range k).filter p))/\∀ j,oid v3=some j->h.next <= j) L.length
  ⟨Nat.zero_le _,_,_,_,h,rfl,Gro.refl _,Own.nil,fun j hj=>by cases hj⟩ ?_
 rintro k hk _ ⟨_,y2,v3,y4,h',rfl,g1,o3,fr⟩ next
 by_cases hkl:k < L.length
 ·have i1:=(A.s.gro g1).iaddr (q := .i64) hkl
  have i2:=(A.s.gro g1).load (get_lk hkl)
  have r0:=AHeap.get_push_same h' (.cells [.int .u64 0,.int .u64 0] true)
  have e2:stV 2 (.ptr h'.next 0) (ws (lk L k)) (h'.push (.cells [.int .u64 0,.int .u64 0] true))=some (aundef,(h'.push (.cells [.int .u64 0,.int .u64 0] true)).set h'.next (.cells [.int .u64 (wd (lk L k):Int),.int .u64 ((0:Nat):Int)] true)):=stV_two r0 rfl rfl
  have g2:Gro h' ((h'.push (.cells [.int .u64 0,.int .u64 0] true)).set h'.next (.cells [.int .u64 (wd (lk L k):Int),.int .u64 ((0:Nat):Int)] true)):=(Gro.push h' _).set (Nat.le_refl _) _
  have l2:loadV (some 2) (.ptr h'.next 0) ((h'.push (.cells [.int .u64 0,.int .u64 0] true)).set h'.next (.cells [.int .u64 (wd (lk L k):Int),.int .u64 ((0:Nat):Int)] true))=some (ws (lk L k)):=loadV_two (AHeap.get_set_same _ _ _)
  obtain ⟨h3,f3,g3⟩:=hp _ k (g1.trans g2) hkl
  simp (disch:=omega) only [RSe.down,lssT,i1,i2,e2,l2]
  rw [lim_call2 (g:=g) rfl rfl f3]
  have hle:((List.range k).filter p).length <= k:=by have:=List.length_filter_le p (List.range k); rwa [List.length_range] at this
  have gg:=(g1.trans g2).trans g3
  have o3':=o3.gro (g2.trans g3)
  have hr:(List.range (k+1)).filter p=(List.range k).filter p ++ if p k=true then [k] else []:=by
   rw [List.range_succ,List.filter_append,List.filter_cons,List.filter_nil]
  cases ep:p k with
  | true =>
   rw [if_pos ep] at hr
   obtain ⟨b',h4,e4,o4,c4,j4,x4⟩:=o3'.app1 (bytes:=8) (c:=[.int .i64 (k:Int)]) rfl rfl (by decide) (by omega)
   simp (disch:=omega) only [RSe.down,e4,add1N]
   refine next hkl _ ⟨by omega,_,_,_,h4,rfl,gg.chg_new c4 fun j hj=>fr j hj,?_,fun j hj=>?_⟩
   ·rw [hr,<- pc_app,List.length_append]; exact o4
   ·rw [j4] at hj; cases hj; have:=gg.le; omega
  | false =>
   rw [if_neg (by rw [ep]; decide),List.append_nil] at hr
   simp (disch:=omega) only [RSe.down,add1N]
   exact next hkl _ ⟨by omega,_,_,_,h3,rfl,gg,by rw [hr]; exact o3',fr⟩
 ·obtain rfl:k=L.length:=by omega
  simp (disch:=omega) only [RSe.down,lssF]
  exact ⟨(fun i hi=>by cases hi),_,rfl,o3.at,g1,fr⟩
end
end Go.AM
namespace Go.AM
open Go Go.GT
section
variable {I:Oracle} (hNo:NoI I) {h:AHeap}
include hNo
theorem cmul_spec {n:Nat} {va vb:AV} {a b:Pm} (ha:PmAt h va a) (hb:PmAt h vb b) (pa:PV n a) (pb:PV n b) (hn:n <= 1000):∃ v h',lim otab.get I (.fn 131) [va,vb] h=some (v,h')/\NewPm h h' v (mul a b) :=
 mul_fn rfl (fun _ _=>hNo.at _ _ (by decide) (by decide) (by decide)) ha hb pa pb hn
theorem cof_spec {n im i : Nat} {E : List (Pm × Nat)} {v a b c : AV} {p : Pm} (hg : h.get im=some (.map (smp E))) (him : im < h.next) (hv : PmAt h v p) (hp : PV n p) (hn : n <= 20) (hE : E.lookup p=some i) :
  ∃ h',lim otab.get I (.fn 130) [.agg [a,b,c,.map im],v] h=some (.int .i64 (i:Int),h')/\Gro h h':=by
 refine (lim_walk_ex (T:=otab.get) (I:=I) (f:=130) (fn:=of130) rfl (a:=[.agg [a,b,c,.map im],v]) (h:=h) (P:=fun a h'=>a = .int .i64 (i:Int)/\Gro h h') (hNo.at _ _ (by decide) (by decide) (by decide)) ?_) |> fun ⟨a,h',e,q1,q2⟩=>⟨h',by rw [e,q1],q2⟩
 show WK _ _ [] ⟨[.agg [a,b,c,.map im],v,aundef],h⟩ _
 dsimp only [of130,Z.t,Z.f,Z.i,Z.q,Z.m,Z.l,Z.b,Z.c,Z.w]
 have g1:=Gro.push h (.cells [a,b,c,.map im] true)
 obtain ⟨h2,f2,g2⟩:=ckey_spec hNo (hv.gro g1) hp hn
 have l1:=box_ld (h:=h) (c:=[a,b,c,.map im]) (r:=true) (Gro.refl _) (o:=3) (x := .map im) rfl
 have l2:=box_ld (h:=h) (c:=[a,b,c,.map im]) (r:=true) g2 (o:=3) (x := .map im) rfl
 have hg2:h2.get im=some (.map (smp E)):=by rw [(g1.trans g2).same _ him]; exact hg
 have el:∀ tm:List AV,nth tm 0 = .map im->nth tm 1 = .str p->evalQ (.lookup (.one 2) (.int .i64 0) false (.tmp 0) (.tmp 1)) tm h2=some (.int .i64 (i:Int)):=fun tm e1 e2=>lookup_val hg2 (by rw [ev_tmp]; exact e1) (by rw [ev_tmp]; exact e2) hE
 simp (disch:=omega) only [RSf.down,l1,WDV_succ,WDV_zero,f2,WDE_some,checks,lower,recheck,AOp.cls,AV.beq_refl,cond_true,true_and,l2,WDs_lookup]
 rw [el _ rfl rfl]
 simp (disch:=omega) only [RSf.down]
 exact ⟨(fun i hi=>by cases hi),_,rfl,rfl,g1.trans g2⟩
end
end Go.AM
namespace Go.AM
open Go Go.GT
def addP (L:List Pm) (q:Pm):List Pm:=if q∈L then L else putL L q
theorem addP_in {L:List Pm} {q:Pm} (h:q∈L):addP L q=L:=if_pos h
theorem addP_out {L:List Pm} {q:Pm} (h:q ∉ L):addP L q=putL L q:=if_neg h
theorem mem_addP {L:List Pm} {q r:Pm}:r∈addP L q ↔ r=q \/ r∈L:=by
 by_cases h:q∈L
 ·rw [addP_in h]
  exact ⟨.inr,fun hh=>hh.elim (fun e=>e ▸ h) id⟩
 ·rw [addP_out h]; exact mem_putL
theorem asc_addP {L:List Pm} {q:Pm} (h:Asc L):Asc (addP L q):=by
 by_cases hq:q∈L
 ·rw [addP_in hq]; exact h
 ·rw [addP_out hq]; exact h.putL hq
theorem mem_foldP {r:Pm}:∀ {M L:List Pm},r∈M.foldl addP L ↔ r∈M \/ r∈L
 | [],L=>by simp
 | q :: M,L=>by
  rw [List.foldl_cons,mem_foldP,mem_addP,List.mem_cons]
  constructor
  ·rintro (h | h | h)
   ·exact .inl (.inr h)
   ·exact .inl (.inl h)
   ·exact .inr h
  ·rintro ((h | h) | h)
   ·exact .inr (.inl h)
   ·exact .inl h
   ·exact .inr (.inr h)
theorem asc_foldP:∀ {M L:List Pm},Asc L->Asc (M.foldl addP L)
 | [],_,h=>h
 | q :: M,L,h=>asc_foldP (M:=M) (L:=addP L q) (asc_addP h)
theorem len_foldP:∀ {M L:List Pm},(M.foldl addP L).length <= M.length+L.length
 | [],L=>by simp
 | q :: M,L=>by
  rw [List.foldl_cons]
  have h1:=len_foldP (M:=M) (L:=addP L q)
  have h2:(addP L q).length <= L.length+1:=by
   by_cases hq:q∈L
   ·rw [addP_in hq]; omega
   ·rw [addP_out hq,length_putL]; omega
  rw [List.length_cons]; omega
end Go.AM
namespace Go.AM
open Go Go.GT
def Sl2 (L:List AV):Prop:=Sls L/\∀ x∈L, ∀ i o,x ≠ .ptr i o
theorem SlAt.stay3 {F:Nat->Prop} {h h':AHeap} {v:AV} {c:List AV} (s:SlAt h v c) (k:Chg F h h') (hF:∀ i L,i < h.next->F i->cellsOf h i=some L->∀ x∈c,x ∉ L):SlAt h' v c:=by
 rcases s with s | ⟨i,o,cap,full,h1,h2,h3,h5⟩
 ·exact .inl s
 ·refine .inr ⟨i,o,cap,full,h1,Nat.lt_of_lt_of_le h2 k.le,fun hc=>?_,h5⟩
  obtain ⟨e1,e2⟩:=h3 hc
  have hn:¬ F i:=fun hf=>by
   obtain ⟨x,r,e⟩:=List.exists_cons_of_ne_nil hc
   have hx:x∈c:=by rw [e]; exact .head _
   obtain ⟨_,q2⟩:=cut_eq e2
   exact hF i full h2 hf e1 x hx (List.mem_of_mem_drop (List.mem_of_mem_take (by rw [<- q2]; exact hx)))
  rw [k.cells h2 hn]; exact ⟨e1,e2⟩
section
variable {lab:Nat->Nat} {h h':AHeap} {n k id iw:Nat} {l:Lv} {orb gsv:AV} {cw cg:List AV} {F:Nat->Prop} {ic:Nat} {ids:Nat->Nat} {c:List Lv}
theorem LvAt.stay (L:LvAt lab h n k id l orb iw gsv cw cg) (g:Chg F h h') (hF:∀ i,i < h.next->F i->lab i=0/\∃ L r,h.get i=some (.cells L r)/\Sl2 L):LvAt lab h' n k id l orb iw gsv cw cg:=by
 have h1:¬ F id:=fun hf=>by have:=(hF _ L.lt hf).1; rw [L.li] at this; omega
 have h2:¬ F iw:=fun hf=>by have:=(hF _ L.wlt hf).1; rw [L.lw] at this; omega
 have hs:∀ i,i < h.next->F i->∃ L r,h.get i=some (.cells L r)/\Sls L:=fun i hi hf=>by
  obtain ⟨_,L,r,e,s⟩:=hF i hi hf; exact ⟨L,r,e,s.1⟩
 refine ⟨by rw [g.same _ L.lt h1]; exact L.get,Nat.lt_of_lt_of_le L.lt g.le,L.li,L.oo.chg g fun j hj hf=>?_,L.lo,
  by rw [g.same _ L.wlt h2]; exact L.w,Nat.lt_of_lt_of_le L.wlt g.le,L.lw,L.wlen,L.wn,fun x p hp=>?_,L.gg.chg g fun j hj hf=>?_,L.lg,L.glen,fun i a p ha hp=>?_⟩
 ·have:=(hF _ (L.oo.lt hj) hf).1; rw [L.lo j hj] at this; omega
 ·obtain ⟨q1,v,q2,q3,q4,q5⟩:=L.ws x p hp
  exact ⟨q1,v,q2,q3,q4.stay g hs,q5⟩
 ·have:=(hF _ (L.gg.lt hj) hf).1; rw [L.lg j hj] at this; omega
 ·obtain ⟨q1,q2⟩:=L.gel i a p ha hp
  exact ⟨q1.stay g hs,q2⟩
theorem ChAt.stay (C:ChAt lab h n ic ids c) (g:Chg F h h') (hF:∀ i,i < h.next->F i->lab i=0/\∃ L r,h.get i=some (.cells L r)/\Sl2 L):ChAt lab h' n ic ids c:=by
 refine ⟨fun j hj=>C.new j (Nat.le_trans g.le hj),C.len,?_,fun k l hl=>?_⟩
 ·obtain ⟨lv,cl,a1,a2,a3,a4,a5,a6,a7,a8⟩:=C.top
  have hn:¬ F ic:=fun hf=>by
   obtain ⟨_,L,r,e,s⟩:=hF ic a3 hf
   have e3:L[0]?=some (AV.int .i64 (n:Int)):=by
    cases L with
    | nil =>
     have e2:loadV none (.ptr ic 0) h=none:=by
      show (match cellsOf h ic with | some c=>fit none 0 c | none=>none)=_
      rw [show cellsOf h ic=some [] by unfold cellsOf; rw [e]]; rfl
     rw [e2] at a2; cases a2
    | cons x r' =>
     have e2:=loadV_get (o:=0) e (x:=x) rfl
     rw [e2] at a2; cases a2; rfl
   exact s.1 _ (List.mem_of_getElem? e3) _ _ rfl
  refine ⟨lv,cl,by rw [loadV_same g a3 hn]; exact a1,by rw [loadV_same g a3 hn]; exact a2,Nat.lt_of_lt_of_le a3 g.le,a4,a5.stay3 g fun i L hi hf e x hx hL=>?_,a6,a7,a8⟩
  obtain ⟨_,L',r,e',s⟩:=hF i hi hf
  have:cellsOf h i=some L':=by unfold cellsOf; rw [e']
  rw [this] at e; cases e
  obtain ⟨k,hk⟩:=List.getElem?_of_mem hx
  have hkn:k < n:=by rw [<- a7]; exact (List.getElem?_eq_some_iff.1 hk).1
  rw [a8 k hkn] at hk; cases hk
  exact s.2 _ hL _ _ rfl
 ·obtain ⟨orb,iw,gsv,cw,cg,L⟩:=C.lv k l hl
  exact ⟨orb,iw,gsv,cw,cg,L.stay g hF⟩
theorem Chain.stay {G0 A:List Pm} (C:Chain n G0 A lab h ic ids c) (g:Chg F h h') (hF:∀ i,i < h.next->F i->lab i=0/\∃ L r,h.get i=some (.cells L r)/\Sl2 L):Chain n G0 A lab h' ic ids c :=
 ⟨C.at_.stay g hF,C.ok,C.cl,C.gen⟩
end
theorem PL.sl2 {h:AHeap} {v:AV} {c:List AV} {ps:List Pm} (s:PL h v c ps):Sl2 c:=⟨s.sls,fun x hx i o e=>by
 subst e
 obtain ⟨k,hk⟩:=List.getElem?_of_mem hx
 have hkl:k < ps.length:=by rw [<- s.len]; exact (List.getElem?_eq_some_iff.1 hk).1
 obtain ⟨p,hp⟩:=get_some hkl
 rcases s.el k _ p hk hp with ⟨e,_⟩ | ⟨_,_,_,_,e,_⟩ <;> cases e⟩
theorem PL.chg {F:Nat->Prop} {h h':AHeap} {v:AV} {c:List AV} {ps:List Pm} (s:PL h v c ps) (k:Chg F h h') (h1:∀ j,oid v=some j->¬ F j) (h2:∀ a∈c, ∀ j,oid a=some j->¬ F j):PL h' v c ps :=
 ⟨s.own.chg k h1,s.len,fun i a p ha hp=>(s.el i a p ha hp).chg k (h2 a (List.mem_of_getElem? ha))⟩
section
variable {I:Oracle} (hN:NoI I) {h:AHeap}
include hN
theorem new0_spec {n : Nat} (hn : n <= 20) (G0 : List Pm) :
  ∃ ic h' lab ids c,lim otab.get I (.fn 186) [.int .i64 (n:Int),.nils] h=some (.ptr ic 0,h')/\Chain n G0 [] lab h' ic ids c/\Gro h h'/\h.next <= ic/\∀ j,j < h.next->lab j=0:=by
 refine (lim_walk_ex (T:=otab.get) (I:=I) (f:=186) (fn:=of186) rfl (a:=[.int .i64 (n:Int),.nils]) (h:=h) (P:=fun a h'=>∃ ic lab ids c,a = .ptr ic 0/\Chain n G0 [] lab h' ic ids c/\Gro h h'/\h.next <= ic/\∀ j,j < h.next->lab j=0) (hN.at _ _ (by decide) (by decide) (by decide)) ?_) |> fun ⟨a,h',e,ic,lab,ids,c,q1,q2⟩=>⟨ic,h',lab,ids,c,by rw [e,q1],q2⟩
 show WK _ _ [] ⟨[.int .i64 (n:Int),.nils,aundef,aundef,aundef,aundef,aundef],h⟩ _
 dsimp only [of186,Z.t,Z.f,Z.i,Z.q,Z.m,Z.l,Z.b,Z.c,Z.w]
 simp only [RSe.down,bldC (show ev [.int .i64 (n:Int),.nils,.nilp,aundef,aundef,aundef,aundef] (.tmp 0) = .int .i64 (n:Int) from rfl)]
 have m0:Making n h (h.push (.cells [.int .i64 (n:Int),.nils] true)) h.next 0 (fun j=>if j=h.next then 4 * n+1 else 0) (fun _=>0) .nils [] :=
  ⟨Gro.push h _,Nat.le_refl _,fun j hj=>if_neg (by rw [AHeap.next_push] at hj; omega),fun j hj=>if_neg (by omega),AHeap.get_push_same h _,Nat.lt_succ_self _,if_pos rfl,Own.nil,(fun j hj=>by cases hj),(fun e=>by cases e),(fun j hj=>by cases hj),fun k hk=>absurd hk (Nat.not_lt_zero _),fun k hk=>absurd hk (Nat.not_lt_zero _)⟩
 refine WK_loopJ (fun i s=>i <= n/\∃ h' lab ids lv cl y4 y5 y6,s=⟨[.int .i64 (n:Int),.nils,.int .i64 (i:Int),.ptr h.next 0,y4,y5,y6],h'⟩/\Making n h h' h.next i lab ids lv cl) n
  ⟨Nat.zero_le _,_,_,_,_,_,_,_,_,rfl,m0⟩ ?_
 rintro i hi _ ⟨_,h',lab,ids,lv,cl,y4,y5,y6,rfl,M⟩ next
 by_cases hin:i < n
 ·simp (disch:=omega) only [RSe.down,lssT]
  rw [bldP (n:=(i:Int)) rfl rfl]
  simp (disch:=omega) only [RSe.down,mkslV_nat]
  rw [bldL (a := .int .i64 (i:Int)) rfl rfl]
  simp (disch:=omega) only [RSe.down]
  have ld:loadV none (.ptr (h'.next+2) 2) (((h'.push (.cells [.int .i64 (i:Int)] true)).push (.cells (repl n [.nils]) true)).push (.cells [.int .i64 (i:Int),.slice h'.next 0 1 (.exact 1),.slice (h'.next+1) 0 n (.exact n),.nils] true))=some (.slice (h'.next+1) 0 n (.exact n)) :=
   loadV_get (AHeap.get_push_same ((h'.push _).push _) _) rfl
  obtain ⟨v6,hd,f6,n6⟩:=bid hN (h:=(((h'.push (.cells [.int .i64 (i:Int)] true)).push (.cells (repl n [.nils]) true)).push (.cells [.int .i64 (i:Int),.slice h'.next 0 1 (.exact 1),.slice (h'.next+1) 0 n (.exact n),.nils] true))) (n:=n) (by omega)
  obtain ⟨he,hg,hh,b',e1,e2,e3,e4,e5,lab',ids',M'⟩:=M.step hin hn n6
  simp (disch:=omega) only [RSe.down,AHeap.next_push,ld,f6,iaddrS,e1,WDV_succ,WDE_some,checks,lower,recheck,AOp.cls,AV.beq_refl,cond_true,true_and,e2,e3,e4,e5]
  exact next hin _ ⟨by omega,hh,lab',ids',b',_,_,_,_,rfl,M'⟩
 ·obtain rfl:n=i:=by omega
  have ln:lenV 1 .nils h'=some (.int .i64 0):=rfl
  simp (disch:=omega) only [RSe.down,lssF,ln]
  have hch:Chain n G0 [] (fun j=>if lab j=4 * n+1 then 0 else lab j) h' h.next ids (ch0 n 0 n):=by
   obtain ⟨o1,o2,o3⟩:=ch0_ok (n:=n) (G0:=G0) (m:=n) (k:=0) (by omega)
   refine ⟨⟨fun j hj=>?_,?_,⟨lv,cl,loadV_get M.get rfl,loadV_get M.get rfl,M.lt,if_pos M.lic,Own.at M.own,fun j hj=>if_pos (M.imm j hj),by rw [M.own.length,Nat.mul_one],M.ptr⟩,fun k l hl=>?_⟩,o1,o2,fun p=>by rw [o3]⟩
   ·rw [if_neg (by rw [M.new j hj]; omega)]; exact M.new j hj
   ·have:=ch0_len n 0 n; exact this
   ·have hk : k < n := by
     have:=(List.getElem?_eq_some_iff.1 hl).1
     rwa [ch0_len] at this
    rw [ch0_get hk] at hl
    cases hl
    obtain ⟨orb,iw,gsv,cw,cg,L⟩:=M.lvs k hk
    exact ⟨orb,iw,gsv,cw,cg,L.relab fun j=>by
     by_cases e:lab j=4 * n+1
     ·exact .inr ⟨if_pos e,by rw [e]; omega,by rw [e]; omega⟩
     ·exact .inl (if_neg e)⟩
  have z0:(AV.int .i64 0) = .int .i64 ((0:Nat):Int):=rfl
  refine WK_loopJ (fun i s=>i <= 0/\∃ y2 y5 y6,s=⟨[.int .i64 (i:Int),.nils,y2,.ptr h.next 0,.int .i64 ((0:Nat):Int),y5,y6],h'⟩) 0 ⟨Nat.zero_le _,_,_,_,rfl⟩ ?_
  rintro i hi _ ⟨hi2,y2,y5',y6',rfl⟩ next2
  obtain rfl:i=0:=by omega
  simp (disch:=omega) only [RSe.down,lssF]
  refine ⟨(fun i hi=>by cases hi),_,rfl,h.next,_,ids,_,rfl,hch,M.gro,Nat.le_refl _,fun j hj=>?_⟩
  show (if lab j=4 * n+1 then 0 else lab j)=0
  rw [if_neg (by rw [M.old j hj]; omega)]; exact M.old j hj
end
end Go.AM
namespace Go.AM
open Go Go.GT
noncomputable def redS (n:Nat) (A:List Pm) (p:Pm):List Pm:=open Classical in if Gen n A p then A else A ++ [p]
noncomputable def red (n:Nat) (M:List Pm):List Pm:=M.foldl (redS n) []
theorem redS_in {n:Nat} {A:List Pm} {p:Pm} (h:Gen n A p):redS n A p=A:=by unfold redS; rw [if_pos h]
theorem redS_out {n:Nat} {A:List Pm} {p:Pm} (h:¬ Gen n A p):redS n A p=A ++ [p]:=by unfold redS; rw [if_neg h]
theorem red_succ {n:Nat} {M:List Pm} {k:Nat} {p:Pm} (h:M[k]?=some p):red n (M.take (k+1))=redS n (red n (M.take k)) p:=by
 unfold red; rw [take_succ_get h,List.foldl_append]; rfl
theorem fold_all {n:Nat}:∀ {M A:List Pm},(∀ p∈M,Gen n A p)->M.foldl (redS n) A=A
 | [],_,_=>rfl
 | p :: M,A,h=>by
  rw [List.foldl_cons,redS_in (h p (.head _))]
  exact fold_all fun q hq=>h q (.tail _ hq)
theorem red_full {n:Nat} {M:List Pm} {k:Nat} (h:∀ p∈M,Gen n (red n (M.take k)) p):red n M=red n (M.take k):=by
 have:red n M=(M.drop k).foldl (redS n) (red n (M.take k)):=by
  unfold red; rw [<- List.foldl_append,List.take_append_drop]
 rw [this]; exact fold_all fun p hp=>h p (List.mem_of_mem_drop hp)
theorem red_sub {n:Nat}:∀ {M A:List Pm}, ∀ p∈M.foldl (redS n) A,p∈A \/ p∈M
 | [],_,p,hp=>.inl hp
 | q :: M,A,p,hp=>by
  rw [List.foldl_cons] at hp
  rcases red_sub p hp with h | h
  ·by_cases e:Gen n A q
   ·rw [redS_in e] at h; exact .inl h
   ·rw [redS_out e] at h
    rcases List.mem_append.1 h with h | h
    ·exact .inl h
    ·rw [List.mem_singleton.1 h]; exact .inr (.head _)
  ·exact .inr (.tail _ h)
theorem red_mem {n:Nat} {M:List Pm} {p:Pm} (h:p∈red n M):p∈M:=(red_sub p h).resolve_left (by simp)
theorem red_len {n:Nat}:∀ {M A:List Pm},(M.foldl (redS n) A).length <= A.length+M.length
 | [],_=>Nat.le_refl _
 | q :: M,A=>by
  rw [List.foldl_cons]
  have h:=red_len (n:=n) (M:=M) (A:=redS n A q)
  have h2:(redS n A q).length <= A.length+1:=by
   by_cases e:Gen n A q
   ·rw [redS_in e]; omega
   ·rw [redS_out e,List.length_append,List.length_singleton]; omega
  rw [List.length_cons]; omega
section
variable {n:Nat} {G0 A:List Pm} {lab:Nat->Nat} {h:AHeap} {ic:Nat} {ids:Nat->Nat} {c:List Lv}
theorem Chain.els (C:Chain n G0 A lab h ic ids c) (hA:∀ s∈A,PV n s):(els c 0 (one n)).Nodup/\(els c 0 (one n)).length=ordC c/\∀ q,q∈els c 0 (one n) ↔ Gen n A q:=by
 refine ⟨(asc_els C.ok (PV.one n)).nodup,length_els,fun q=>?_⟩
 rw [mem_els C.ok (PV.one n)]
 constructor
 ·rintro ⟨s,s1,s2,s3,rfl⟩
  rw [s1.mul_one]; exact (C.iff s1).1 s3
 ·intro hq
  have hqv:=hq.pv hA
  exact ⟨q,hqv,Fx.zero,(C.iff hqv).2 hq,hqv.mul_one.symm⟩
end
section
variable {I:Oracle} (hNo:NoI I) {h:AHeap}
include hNo
theorem reduced_spec {n : Nat} (hn : n <= 20) {vL : AV} {M : List Pm} (hM : PmsAt h vL M) (hG : ∀ s∈M,PV n s) (hcl : ∀ p,Gen n M p->p∈M) (hl : M.length <= 5040) :
  ∃ v cb h',lim otab.get I (.fn 113) [.int .i64 (n:Int),vL] h=some (v,h')/\PL h' v cb (red n M)/\Gro h h':=by
 have hB:Bnd n M 5040:=⟨M,hcl,hl⟩
 refine (lim_walk_ex (T:=otab.get) (I:=I) (f:=113) (fn:=of113) rfl (a:=[.int .i64 (n:Int),vL]) (h:=h) (P:=fun v h'=>∃ cb,PL h' v cb (red n M)/\Gro h h') (hNo.at _ _ (by decide) (by decide) (by decide)) ?_) |> fun ⟨v,h',e,cb,q⟩=>⟨v,cb,h',e,q⟩
 show WK _ _ [] ⟨[.int .i64 (n:Int),vL,aundef,aundef,aundef,aundef,aundef],h⟩ _
 dsimp only [of113,Z.t,Z.f,Z.i,Z.q,Z.m,Z.l,Z.b,Z.c,Z.w]
 obtain ⟨ic,h2,lab,ids,c,f2,C,g2,hic,hold⟩:=new0_spec hNo (h:=h) hn M
 simp (disch:=omega) only [RSf.down,f2,hM.len]
 have hA:∀ k, ∀ s∈red n (M.take k),PV n s:=fun k s hs=>hG s (List.mem_of_mem_take (red_mem hs))
 obtain ⟨cS,s1,s2,s3⟩:=hM
 refine WK_loopJ (fun k s=>k <= M.length/\∃ y2 y5 v4 c4 lab c h',s=⟨[.int .i64 (k:Int),vL,y2,.ptr ic 0,v4,y5,.int .i64 (M.length:Int)],h'⟩/\Gro h h'/\Chain n M (red n (M.take k)) lab h' ic ids c/\(∀ j,j < h.next->lab j=0)/\PL h' v4 c4 (red n (M.take k))/\(∀ j,oid v4=some j->h.next <= j/\lab j=0)/\(∀ a∈c4, ∀ j,oid a=some j->j < h.next)) M.length
  ⟨Nat.zero_le _,_,_,.nils,[],lab,c,h2,rfl,g2,C,hold,PL.nil,(fun j hj=>by cases hj),fun a ha=>by cases ha⟩ ?_
 rintro k hk _ ⟨_,y2,y5,v4,c4,lab,c,h',rfl,g,C,hold,p4,fr,old⟩ next
 by_cases hkl:k < M.length
 ·obtain ⟨p,hp⟩:=get_some hkl
  have s0:=s1.gro g
  obtain ⟨a,ha⟩:=get_some (show k < cS.length by rw [s2]; exact hkl)
  have p0:=s3 k a p ha hp
  have i1:=s0.iaddr (q := .i64) (k:=k) (by rw [s2]; exact hkl)
  have i2:=s0.load ha
  have i3:=p0.gro g
  have hpM:=List.mem_of_getElem? hp
  have hpv:=hG p hpM
  obtain ⟨b,h3,f3,g3,hb⟩:=ccontains_spec hNo C hn i3 hpv
  have C3:=C.gro g3
  have p43:=p4.gro g3
  have hst:=red_succ (n:=n) hp
  have hfewr:(red n (M.take k)).length <= 5040:=by
   have:=red_len (n:=n) (M:=M.take k) (A:=[])
   have h2:=List.length_take_le k M
   unfold red
   rw [List.length_nil] at this; omega
  cases b with
  | true =>
   rw [redS_in (hb.1 rfl)] at hst
   rw [<- hst] at C3 p43
   have fo:=corder_spec hNo C3 hn hG hB
   by_cases e:ordC c=M.length
   ·have hfull : red n M=red n (M.take (k+1)) := red_full fun q hq=>by
     obtain ⟨q1,q2,q3⟩:=C3.els (hA (k+1))
     refine (q3 q).1 (Classical.byContradiction fun hn'=>?_)
     have:=nodup_le (l:=q :: els c 0 (one n)) (l':=M) (List.nodup_cons.2 ⟨hn',q1⟩) fun x hx=>by
      rcases List.mem_cons.1 hx with hx | hx
      ·rw [hx]; exact hq
      ·exact hcl _ (((q3 x).1 hx).mono hG fun s hs=>.of hG (List.mem_of_mem_take (red_mem hs)))
     rw [List.length_cons,q2,e] at this
     omega
    simp (disch:=omega) only [RSf.down,lssT,i1,i2,f3,not_bool,Bool.not_true,fo,s0.len,s2,eqlT,WX_block_ne (show (0:Nat) ≠ 1 by decide)]
    rw [<- hfull] at p43
    exact ⟨(fun i hi=>by cases hi),_,rfl,_,p43,(g.trans g3)⟩
   ·simp (disch:=omega) only [RSf.down,lssT,i1,i2,f3,not_bool,Bool.not_true,fo,s0.len,s2,eqlF,add1N]
    exact next hkl _ ⟨by omega,_,_,_,_,_,_,_,rfl,(g.trans g3),C3,hold,p43,fr,old⟩
  | false =>
   have hng:¬ Gen n (red n (M.take k)) p:=fun hh=>by have:=hb.2 hh; cases this
   rw [redS_out hng] at hst
   obtain ⟨e6,b',h7,e7,p7,c7,j7,x7⟩:=p43.app (i3.gro g3) (by omega)
   have C7:=C3.stay c7 fun i hi e=>⟨(fr i e).2,c4,true,p43.own.get e,p43.sl2⟩
   have ao:∀ j,oid a=some j->j < h.next:=fun j hj=>SlAt.oid_lt p0 hj
   have g37:Gro h h7:=(g.trans g3).chg_new c7 fun j hj=>(fr j hj).1
   obtain ⟨h8,lab8,c8,f8,C8,k8,l8⟩:=cadd_spec hNo C7 hn hG hB (hA k) (p0.gro g37) (fun j hj=>hold j (ao j hj)) hpM
   rw [<- hst] at C8 p7
   have g8:Gro h h8:=g37.chg_new k8 fun j hj=>Classical.byContradiction fun hlt=>hj (hold j (by omega))
   have hold8:∀ j,j < h.next->lab8 j=0:=fun j hj=>by rw [l8 j (Nat.lt_of_lt_of_le hj g37.le)]; exact hold j hj
   have old8:∀ x∈c4 ++ [a], ∀ j,oid x=some j->j < h.next:=fun x hx=>by
    rcases List.mem_append.1 hx with q | q
    ·exact old x q
    ·rw [List.mem_singleton.1 q]; exact ao
   have z7:lab (h3.next+1)=0:=C3.at_.new _ (by omega)
   have fr8:∀ j,oid b'=some j->h.next <= j/\lab8 j=0:=fun j hj=>by
    rw [j7] at hj; cases hj
    have:=(g.trans g3).le
    exact ⟨by omega,by rw [l8 _ (by omega)]; exact z7⟩
   have p8:=p7.chg k8 (fun j hj hf=>hf (by rw [j7] at hj; cases hj; exact z7)) fun x hx j hj hf=>hf (hold j (old8 x hx j hj))
   have fo:=corder_spec hNo C8 hn hG hB
   by_cases e:ordC c8=M.length
   ·have hfull : red n M=red n (M.take (k+1)) := red_full fun q hq=>by
     obtain ⟨q1,q2,q3⟩:=C8.els (hA (k+1))
     refine (q3 q).1 (Classical.byContradiction fun hn'=>?_)
     have:=nodup_le (l:=q :: els c8 0 (one n)) (l':=M) (List.nodup_cons.2 ⟨hn',q1⟩) fun x hx=>by
      rcases List.mem_cons.1 hx with hx | hx
      ·rw [hx]; exact hq
      ·exact hcl _ (((q3 x).1 hx).mono hG fun s hs=>.of hG (List.mem_of_mem_take (red_mem hs)))
     rw [List.length_cons,q2,e] at this
     omega
    simp (disch:=omega) only [RSf.down,lssT,i1,i2,f3,not_bool,Bool.not_false,e6,e7,f8,fo,s0.len,s2,eqlT,WX_block_ne (show (0:Nat) ≠ 1 by decide)]
    rw [<- hfull] at p8
    exact ⟨(fun i hi=>by cases hi),_,rfl,_,p8,g8⟩
   ·simp (disch:=omega) only [RSf.down,lssT,i1,i2,f3,not_bool,Bool.not_false,e6,e7,f8,fo,s0.len,s2,eqlF,add1N]
    exact next hkl _ ⟨by omega,_,_,_,_,_,_,_,rfl,g8,C8,hold8,p8,fr8,old8⟩
 ·obtain rfl:k=M.length:=by omega
  simp (disch:=omega) only [RSf.down,lssF]
  rw [List.take_length] at p4
  exact ⟨(fun i hi=>by cases hi),_,rfl,c4,p4,g⟩
end
end Go.AM
namespace Go.AM
open Go Go.GT
section
variable {h h':AHeap} {i:Nat} {a b:Int}
theorem PmAt.stayU {v:AV} {p:Pm} (s:PmAt h v p) (g:Chg (fun j=>j=i) h h') (hc:cellsOf h i=some [.int .u64 a,.int .u64 b]):PmAt h' v p :=
 SlAt.stay3 s g fun j L hj e hL x hx hm=>by
  subst e; rw [hc] at hL; cases hL
  obtain ⟨y,_,rfl⟩:=List.mem_map.1 hx
  rcases List.mem_cons.1 hm with q | q
  ·cases q
  ·rw [List.mem_singleton] at q; cases q
theorem PmsAt.stayU {v:AV} {L:List Pm} (s:PmsAt h v L) (g:Chg (fun j=>j=i) h h') (hc:cellsOf h i=some [.int .u64 a,.int .u64 b]):PmsAt h' v L:=by
 obtain ⟨c,s1,s2,s3⟩:=s
 refine ⟨c,SlAt.stay3 s1 g fun j L' hj e hL x hx hm=>?_,s2,fun k x p hk hp=>(s3 k x p hk hp).stayU g hc⟩
 subst e; rw [hc] at hL; cases hL
 obtain ⟨k,hk⟩:=List.getElem?_of_mem hx
 have hkl:k < L.length:=by rw [<- s2]; exact (List.getElem?_eq_some_iff.1 hk).1
 obtain ⟨p,hp⟩:=get_some hkl
 have hn:=(s3 k x p hk hp).not_int
 rcases List.mem_cons.1 hm with q | q
 ·exact hn _ _ q
 ·rw [List.mem_singleton] at q; exact hn _ _ q
theorem TabAt.stayU {it:Nat} {d:Int} {vg:AV} {l:List Pm} (T:TabAt h it d vg l) (g:Chg (fun j=>j=i) h h') (hc:cellsOf h i=some [.int .u64 a,.int .u64 b]):TabAt h' it d vg l:=by
 obtain ⟨va,a1,a2⟩:=T.all
 obtain ⟨vm,m1,m2⟩:=T.mul
 obtain ⟨vi,i1,i2⟩:=T.inv
 have hne:¬ it=i:=fun e=>by
  subst e
  have e2:(match cellsOf h it with | some c=>fit none 2 c | none=>none)=some va:=a1
  rw [hc] at e2; cases e2
 have ld:∀ {o:Nat} {v:AV},loadV none (.ptr it o) h=some v->loadV none (.ptr it o) h'=some v:=fun e=>by
  rw [loadV_same g T.lt hne]; exact e
 refine ⟨Nat.lt_of_lt_of_le T.lt g.le,⟨va,ld a1,a2.stayU g hc⟩,⟨vm,ld m1,m2.stayU g hc⟩,⟨vi,ld i1,i2.stayU g hc⟩,?_⟩
 have hg:=T.grp
 show (match cellsOf h' it with | some c=>fit (some 2) 0 c | none=>none)=_
 rw [g.cells T.lt hne]; exact hg
end
theorem PmAt.stayB {h h':AHeap} {i:Nat} {v:AV} {p:Pm} (s:PmAt h v p) (g:Chg (fun j=>j=i) h h') (hc:cellsOf h i=some [.int .i64 0,.nils]) (hp:2 <= p.length):PmAt h' v p:=by
 rcases s with s | ⟨j,o,cap,full,h1,h2,h3,h5⟩
 ·exact .inl s
 ·refine .inr ⟨j,o,cap,full,h1,Nat.lt_of_lt_of_le h2 g.le,fun hne=>?_,h5⟩
  obtain ⟨e1,e2⟩:=h3 hne
  have hn:¬ j=i:=fun e=>by
   subst e; rw [hc] at e1; cases e1
   obtain ⟨q1,q2⟩:=cut_eq e2
   rw [pc_len] at q1 q2
   have ho:o=0:=by have:o+p.length <= 2:=q1; omega
   have hl:p.length=2:=by have:o+p.length <= 2:=q1; omega
   subst ho
   rw [hl] at q2
   have hx:AV.nils∈pc p:=by rw [q2]; simp
   obtain ⟨y,_,e⟩:=List.mem_map.1 hx
   cases e
  rw [g.cells h2 hn]; exact ⟨e1,e2⟩
theorem red_new {n:Nat}:∀ {M A:List Pm}, ∀ p∈M.foldl (redS n) A,p∈A \/ p ≠ one n
 | [],_,p,hp=>.inl hp
 | q :: M,A,p,hp=>by
  rw [List.foldl_cons] at hp
  rcases red_new p hp with h | h
  ·by_cases e:Gen n A q
   ·rw [redS_in e] at h; exact .inl h
   ·rw [redS_out e] at h
    rcases List.mem_append.1 h with h | h
    ·exact .inl h
    ·rw [List.mem_singleton.1 h]; exact .inr fun e2=>e (by rw [e2]; exact .one)
  ·exact .inr h
theorem two_le {n:Nat} {p:Pm} (hp:PV n p) (h:p ≠ one n):2 <= n:=by
 refine Classical.byContradiction fun hn=>h ?_
 refine List.ext_getElem? fun i=>?_
 by_cases hi:i < n
 ·have h0:i=0:=by omega
  have hx:=hp.ap_lt hi
  have e1:p[i]?=some (ap p i):=by rw [List.getElem?_eq_getElem (by rw [hp.len]; exact hi),ap_lt_len (by rw [hp.len]; exact hi)]
  rw [e1,show ap p i=i by omega]
  unfold one; rw [List.getElem?_range hi]
 ·rw [List.getElem?_eq_none (by rw [hp.len]; omega),List.getElem?_eq_none (by unfold one; rw [List.length_range]; omega)]
def elsOf (l:List Pm) (H:List Nat):List Pm:=H.map (el l)
theorem elsOf_pv {n:Nat} {S l:List Pm} (hS:∀ s∈S,PV n s) (h:IsEl n S l) {H:List Nat} (hH:∀ x∈H,x < l.length):∀ p∈elsOf l H,PV n p:=fun p hp=>by
 obtain ⟨x,hx,rfl⟩:=List.mem_map.1 hp
 exact (h.el hS (hH x hx)).2
theorem elsOf_cl {n:Nat} {S l:List Pm} (hS:∀ s∈S,PV n s) (h:IsEl n S l) {H:List Nat} (hH:GT.Sub l.length (op l) H):∀ p,Gen n (elsOf l H) p->p∈elsOf l H:=fun p hp=>by
 refine hp.ind (P:=fun p=>p∈elsOf l H) ?_ fun x hx s hs=>?_
 ·exact List.mem_map.2 ⟨0,hH.one,el_get (h.first hS)⟩
 ·obtain ⟨i,hi,rfl⟩:=List.mem_map.1 hx
  obtain ⟨j,hj,rfl⟩:=List.mem_map.1 hs
  exact List.mem_map.2 ⟨op l i j,hH.cl i hi j hj,(h.op hS (hH.lt i hi) (hH.lt j hj)).2⟩
theorem bldS {tm:List AV} {h:AHeap} {n:Int} {z0 z1 v:AV} {x y:AOpd} (hx:ev tm x = .int .i64 n) (hy:ev tm y=v) (hv:v.scalar=true):evalQ (.build [z0,z1] [(0,(1,x)),(1,(1,y))]) tm h=some (.agg [.int .i64 n,v]):=by
 simp only [evalQ,fills,hx,hy,scalar_cells hv]; rfl
theorem result_ct {tm:List AV} {h:AHeap} {b k i o:Nat} {n:Option Nat} {v:AV} (e:nth tm k = .ptr i o) (hl:loadV n (.ptr i o) h=some v):result [.cell k n,.tmp b] tm h=some (.tup [v,nth tm b]):=by
 have h1:resOf tm h (.cell k n)=some v:=by
  show (match nth tm k with | .ptr i o=>(match cellsOf h i with | some c=>fit n o c | none=>none) | _=>none)=_
  rw [e]; exact hl
 have h2:resOfs tm h [.cell k n,.tmp b]=some [v,nth tm b]:=by
  show (match resOf tm h (.cell k n),(some [nth tm b]:Option (List AV)) with | some v,some vs=>some (v :: vs) | _,_=>none)=_
  rw [h1]
 unfold result
 rw [h2]
section
variable {I:Oracle} (hS:Srt I) {h:AHeap}
include hS
theorem closedT_spec {vg vl : AV} {ls : List (List Int)} {ms : List Int} (hg : LsAt h vg ls) {d : Int} (hc : groupErr d ls=0) {l : List Pm} (hel : IsEl d.toNat (gS ls) l) (hT : TG l.length (op l)) (hl : l.length <= 64) (hv : IAt h vl ms) (hml : ms.length <= 1000) (hb : ms.any (badN l.length)=false) :
  ∃ it w h',lim otab.get I (.fn 105) [.agg [.int .i64 d,vg],vl] h=some (.tup [.ptr it 0,sv w 0,.int .i64 0],h')/\Gro h h'/\w < 18446744073709551616/\(∀ y,w.testBit y=true ↔ GenT (op l) (ms.map Int.toNat) y)/\TabAt h' it d vg l:=by
 have hNo:=hS.no
 refine (lim_walk_ex (T:=otab.get) (I:=I) (f:=105) (fn:=of105) rfl (a:=[.agg [.int .i64 d,vg],vl]) (h:=h) (P:=fun v h'=>∃ it w,v = .tup [.ptr it 0,sv w 0,.int .i64 0]/\Gro h h'/\w < 18446744073709551616/\(∀ y,w.testBit y=true ↔ GenT (op l) (ms.map Int.toNat) y)/\TabAt h' it d vg l) (hNo.at _ _ (by decide) (by decide) (by decide)) ?_) |> fun ⟨v,h',e,it,w,q1,q2⟩=>⟨it,w,h',by rw [e,q1],q2⟩
 show WK _ _ [] ⟨[.agg [.int .i64 d,vg],vl,aundef,aundef,aundef],h⟩ _
 dsimp only [of105,Z.t,Z.f,Z.i,Z.q,Z.m,Z.l,Z.b,Z.c,Z.w]
 have g2:Gro h ((h.push (.cells [.int .i64 d,vg] true)).push (.cells [.int .u64 0,.int .u64 0] true)):=(Gro.push h _).trans (Gro.push _ _)
 have b1:loadV (some 2) (.ptr h.next 0) ((h.push (.cells [.int .i64 d,vg] true)).push (.cells [.int .u64 0,.int .u64 0] true))=some (.agg [.int .i64 d,vg]):=loadV_two (by
  rw [AHeap.get_push_lt _ _ (show h.next < h.next+1 by omega),AHeap.get_push_same])
 have r1:((h.push (.cells [.int .i64 d,vg] true)).push (.cells [.int .u64 0,.int .u64 0] true)).get (h.next+1)=some (.cells [.int .u64 0,.int .u64 0] true):=AHeap.get_push_same (h.push _) _
 have x2:((h.push (.cells [.int .i64 d,vg] true)).push (.cells [.int .u64 0,.int .u64 0] true)).next=h.next+2:=rfl
 simp (disch:=omega) only [RSe.down,AHeap.next_push]
 generalize ((h.push (.cells [.int .i64 d,vg] true)).push (.cells [.int .u64 0,.int .u64 0] true))=h2 at g2 b1 r1 x2 ⊢
 obtain ⟨it,h3,f3,T3,g3⟩:=tabulate_spec hS (hg.gro g2) hc hel (by omega)
 have q4:(h3.push (.cells [.nilp] true)).get h3.next=some (.cells [.nilp] true):=AHeap.get_push_same _ _
 have e4:stV 1 (.ptr h3.next 0) (.ptr it 0) (h3.push (.cells [.nilp] true))=some (aundef,(h3.push (.cells [.nilp] true)).set h3.next (.cells [.ptr it 0] true)):=stV_at (k:=0) q4 (by simp) rfl
 have g4:Gro h3 ((h3.push (.cells [.nilp] true)).set h3.next (.cells [.ptr it 0] true)):=(Gro.push h3 _).set (Nat.le_refl _) _
 have p4:((h3.push (.cells [.nilp] true)).set h3.next (.cells [.ptr it 0] true)).get h3.next=some (.cells [.ptr it 0] true):=AHeap.get_set_same _ _ _
 have x4:((h3.push (.cells [.nilp] true)).set h3.next (.cells [.ptr it 0] true)).next=h3.next+1:=rfl
 simp (disch:=omega) only [RSe.down,b1,f3,e4,neqF]
 generalize ((h3.push (.cells [.nilp] true)).set h3.next (.cells [.ptr it 0] true))=h4 at g4 p4 x4 ⊢
 have T4:=T3.gro g4
 have gh4:=g2.trans (g3.trans g4)
 obtain ⟨va,a1,a2⟩:=T4.all
 obtain ⟨vm,m1,m2⟩:=T4.mul
 have l4:loadV none (.ptr h3.next 0) h4=some (.ptr it 0):=loadV_get p4 rfl
 have hv4:IAt h4 vl ms:=SlAt.gro hv gh4
 have f5:=contains1_spec hNo l4 a1 (fun h'=>a2.len (h':=h')) hv4 (by omega)
 rw [hb] at f5
 obtain ⟨n1,n2⟩:=hv4.nats hb
 obtain ⟨w,h6,f6,g6,hw,hiff⟩:=closure_spec hNo T4.lt m1 m2 hT hl (a:=0) (by decide) (fun i hi=>by rw [Nat.zero_testBit] at hi; cases hi) n1 n2 (by rw [List.length_map]; exact hml)
 have hz:bl 128 (fun i=>if i < 64 then (0:Nat).testBit i else (0:Nat).testBit (i - 64))=[]:=by
  unfold bl; exact List.filter_eq_nil_iff.2 fun i _=>by simp
 rw [hz] at hiff
 have f6':lim otab.get I (.fn 183) [.ptr it 0,.agg [.int .u64 0,.int .u64 0],vl] h4=some (.agg [.int .u64 (w:Int),.int .u64 ((0:Nat):Int)],h6):=f6
 have hb0:∀ tm:List AV,evalQ (.build [.int .u64 0,.int .u64 0] []) tm h4=some (.agg [.int .u64 0,.int .u64 0]):=fun _=>rfl
 have l6:loadV none (.ptr h3.next 0) h6=some (.ptr it 0):=loadV_get (by rw [g6.same _ (by omega)]; exact p4) rfl
 have r6:h6.get (h.next+1)=some (.cells [.int .u64 0,.int .u64 0] true):=by
  rw [(g3.trans (g4.trans g6)).same _ (by omega)]; exact r1
 have e6:stV 2 (.ptr (h.next+1) 0) (.agg [.int .u64 (w:Int),.int .u64 ((0:Nat):Int)]) h6=some (aundef,h6.set (h.next+1) (.cells [.int .u64 (w:Int),.int .u64 ((0:Nat):Int)] true)):=stV_two r6 rfl rfl
 simp (disch:=omega) only [RSe.down,f5,l4,WDV_succ,WDs_build,hb0,f6',WDE_some,checks,lower,recheck,AOp.cls,AV.beq_refl,cond_true,true_and,l6,WDV_zero,WDs_mov,WDE_none,e6]
 have c6:cellsOf h6 (h.next+1)=some [.int .u64 0,.int .u64 0]:=cellsOf_get r6
 refine ⟨(fun i hi=>by cases hi),_,result_tct rfl (loadV_two (AHeap.get_set_same _ _ _)),it,w,rfl,(gh4.trans g6).set (by omega) _,hw,hiff,(T4.gro g6).stayU (Chg.set (F:=fun j=>j=h.next+1) h6 rfl _) c6⟩
theorem of_spec {vg vl : AV} {ls : List (List Int)} {ms : List Int} (hg : LsAt h vg ls) {d : Int} (hc : groupErr d ls=0) {l : List Pm} (hel : IsEl d.toNat (gS ls) l) (hT : TG l.length (op l)) (hl : l.length <= 64) (hv : IAt h vl ms) (hml : ms.length <= 1000) (hb : ms.any (badN l.length)=false) :
  ∃ v cb h',lim otab.get I (.fn 46) [.agg [.int .i64 d,vg],vl] h=some (.tup [.agg [.int .i64 d,v],.int .i64 0],h')/\PL h' v cb (red d.toNat (elsOf l (clo l.length (op l) (ms.map Int.toNat))))/\Gro h h':=by
 have hNo:=hS.no
 refine (lim_walk_ex (T:=otab.get) (I:=I) (f:=46) (fn:=of46) rfl (a:=[.agg [.int .i64 d,vg],vl]) (h:=h) (P:=fun a h'=>∃ v cb,a = .tup [.agg [.int .i64 d,v],.int .i64 0]/\PL h' v cb (red d.toNat (elsOf l (clo l.length (op l) (ms.map Int.toNat))))/\Gro h h') (hNo.at _ _ (by decide) (by decide) (by decide)) ?_) |> fun ⟨a,h',e,v,cb,q1,q2⟩=>⟨v,cb,h',by rw [e,q1],q2⟩
 show WK _ _ [] ⟨[.agg [.int .i64 d,vg],vl,aundef,aundef,aundef,aundef,aundef,aundef,aundef],h⟩ _
 dsimp only [of46,Z.t,Z.f,Z.i,Z.q,Z.m,Z.l,Z.b,Z.c,Z.w]
 obtain ⟨n,rfl,hn,hl32,hls,hSv⟩:=group_of_ok hc
 rw [Int.toNat_natCast] at hel ⊢
 have g2:Gro h ((h.push (.cells [.int .i64 (n:Int),vg] true)).push (.cells [.int .i64 0,.nils] true)):=(Gro.push h _).trans (Gro.push _ _)
 have r0:((h.push (.cells [.int .i64 (n:Int),vg] true)).push (.cells [.int .i64 0,.nils] true)).get h.next=some (.cells [.int .i64 (n:Int),vg] true):=by
  rw [AHeap.get_push_lt _ _ (show h.next < h.next+1 by omega),AHeap.get_push_same]
 have r1:((h.push (.cells [.int .i64 (n:Int),vg] true)).push (.cells [.int .i64 0,.nils] true)).get (h.next+1)=some (.cells [.int .i64 0,.nils] true):=AHeap.get_push_same (h.push _) _
 have x2:((h.push (.cells [.int .i64 (n:Int),vg] true)).push (.cells [.int .i64 0,.nils] true)).next=h.next+2:=rfl
 have b1:loadV (some 2) (.ptr h.next 0) ((h.push (.cells [.int .i64 (n:Int),vg] true)).push (.cells [.int .i64 0,.nils] true))=some (.agg [.int .i64 (n:Int),vg]):=loadV_two r0
 simp (disch:=omega) only [RSf.down,AHeap.next_push]
 generalize ((h.push (.cells [.int .i64 (n:Int),vg] true)).push (.cells [.int .i64 0,.nils] true))=h2 at g2 r0 b1 r1 x2 ⊢
 obtain ⟨it,w,h3,f3,g3,hw,hiff,T3⟩:=closedT_spec hS (hg.gro g2) hc hel hT hl (SlAt.gro hv g2:IAt _ vl ms) hml hb
 have f3':lim otab.get I (.fn 105) [.agg [.int .i64 (n:Int),vg],vl] h2=some (.tup [.ptr it 0,.agg [.int .u64 (w:Int),.int .u64 ((0:Nat):Int)],.int .i64 0],h3):=f3
 have q3:(h3.push (.cells [.int .u64 0,.int .u64 0] true)).get h3.next=some (.cells [.int .u64 0,.int .u64 0] true):=AHeap.get_push_same _ _
 have e3:stV 2 (.ptr h3.next 0) (.agg [.int .u64 (w:Int),.int .u64 ((0:Nat):Int)]) (h3.push (.cells [.int .u64 0,.int .u64 0] true))=some (aundef,(h3.push (.cells [.int .u64 0,.int .u64 0] true)).set h3.next (.cells [.int .u64 (w:Int),.int .u64 ((0:Nat):Int)] true)):=stV_two q3 rfl rfl
 have g4:Gro h3 ((h3.push (.cells [.int .u64 0,.int .u64 0] true)).set h3.next (.cells [.int .u64 (w:Int),.int .u64 ((0:Nat):Int)] true)):=(Gro.push h3 _).set (Nat.le_refl _) _
 have p3:loadV (some 2) (.ptr h3.next 0) ((h3.push (.cells [.int .u64 0,.int .u64 0] true)).set h3.next (.cells [.int .u64 (w:Int),.int .u64 ((0:Nat):Int)] true))=some (.agg [.int .u64 (w:Int),.int .u64 ((0:Nat):Int)]):=loadV_two (AHeap.get_set_same _ _ _)
 simp (disch:=omega) only [RSf.down,b1,f3',e3,neqF,p3]
 generalize ((h3.push (.cells [.int .u64 0,.int .u64 0] true)).set h3.next (.cells [.int .u64 (w:Int),.int .u64 ((0:Nat):Int)] true))=h4 at g4 p3 ⊢
 obtain ⟨v5,h5,f5,o5,g5,_⟩:=slist_spec hNo (h:=h4) (a:=w) (b:=0) hw (by decide)
 have f5':lim otab.get I (.fn 101) [.agg [.int .u64 (w:Int),.int .u64 ((0:Nat):Int)]] h4=some (v5,h5):=f5
 have n2:=(hv.nats hb).2
 have p5:PmAt h5 v5 _:=o5.at
 rw [bl_clo hT hl n2 hiff] at p5
 have sC:=clo_sub hT n2
 generalize clo l.length (op l) (ms.map Int.toNat)=H at p5 sC ⊢
 have hH:=sC.lt
 have lH:H.length <= 64:=by
  have:=nodup_le sC.nd (l':=List.range l.length) fun x hx=>List.mem_range.2 (sC.lt x hx)
  rw [List.length_range] at this; omega
 have T5:=T3.gro (g4.trans g5)
 obtain ⟨va,a1,a2⟩:=T5.all
 have l5:∀ {h':AHeap},lenV 1 v5 h'=some (.int .i64 (H.length:Int)):=fun {h'}=>by
  have:=SlAt.len p5 (h':=h'); rwa [pc_len] at this
 simp (disch:=omega) only [RSf.down,f5',l5]
 refine WK_loopJ (fun k s=>k <= H.length/\∃ v1 y2 y3 c1 h',s=⟨[.int .i64 (k:Int),v1,y2,y3,v5,.ptr it 0,.int .i64 (H.length:Int),.ptr h.next 0,.ptr (h.next+1) 0],h'⟩/\Gro h5 h'/\PL h' v1 c1 (elsOf l (H.take k))/\∀ j,oid v1=some j->h5.next <= j) H.length
  ⟨Nat.zero_le _,.nils,_,_,[],h5,rfl,Gro.refl _,PL.nil,fun j hj=>by cases hj⟩ ?_
 rintro k hk _ ⟨_,v1,y2,y3,c1,h',rfl,g6,p1,fr⟩ next
 by_cases hkl:k < H.length
 ·obtain ⟨x,hx⟩:=get_some hkl
  have hxl:x < l.length:=hH x (List.mem_of_getElem? hx)
  have i1:=(p5.gro g6).iaddr (q := .i64) hkl
  have i2:=(p5.gro g6).load hkl
  rw [ap_get? hx] at i2
  obtain ⟨j1,aa,j2,j3⟩:=(PmsAt.gro' a2 g6).get (get_el hxl)
  have a1':loadV none (.ptr it 2) h'=some va:=by rw [loadV_same (F:=fun _=>False) g6.chg T5.lt (fun hf=>hf)]; exact a1
  have hlen:(elsOf l (H.take k)).length <= 64:=by
   unfold elsOf; rw [List.length_map,List.length_take]; omega
  obtain ⟨e6,b',h7,e7,p7,c7,j7,x7⟩:=p1.app j3 (by omega)
  simp (disch:=omega) only [RSf.down,lssT,i1,i2,a1',j1,j2,e6,e7,add1N]
  refine next hkl _ ⟨by omega,_,_,_,c1 ++ [aa],h7,rfl,g6.chg_new c7 fun j hj=>fr j hj,?_,fun j hj=>?_⟩
  ·have:elsOf l (H.take (k+1))=elsOf l (H.take k) ++ [el l x]:=by unfold elsOf; rw [take_succ_get hx,List.map_append]; rfl
   rw [this]; exact p7
  ·rw [j7] at hj; cases hj; have:=g6.le; omega
 ·obtain rfl:k=H.length:=by omega
  rw [List.take_length] at p1
  have g05:Gro h2 h':=g3.trans (g4.trans (g5.trans g6))
  have l0:loadV none (.ptr h.next 0) h'=some (.int .i64 (n:Int)):=loadV_get (by rw [g05.same _ (by omega)]; exact r0) rfl
  have hMl:(elsOf l H).length <= 5040:=by unfold elsOf; rw [List.length_map]; omega
  obtain ⟨v8,cb,h8,f8,p8,g8⟩:=reduced_spec hNo hn p1.pms (elsOf_pv hSv hel hH) (elsOf_cl hSv hel sC) hMl
  have l8:loadV none (.ptr h.next 0) h8=some (.int .i64 (n:Int)):=loadV_get (by rw [(g05.trans g8).same _ (by omega)]; exact r0) rfl
  have r8:h8.get (h.next+1)=some (.cells [.int .i64 0,.nils] true):=by rw [(g05.trans g8).same _ (by omega)]; exact r1
  have s8:v8.scalar=true:=SlAt.scalar p8.own.at
  have e9:stV 2 (.ptr (h.next+1) 0) (.agg [.int .i64 (n:Int),v8]) h8=some (aundef,h8.set (h.next+1) (.cells [.int .i64 (n:Int),v8] true)):=stV_two r8 rfl s8
  have hbl:∀ tm:List AV,nth tm 0 = .int .i64 (n:Int)->nth tm 1=v8->evalQ (.build [.int .i64 0,.nils] [(0,1,.tmp 0),(1,1,.tmp 1)]) tm h8=some (.agg [.int .i64 (n:Int),v8]):=fun tm e1 e2=>bldS (by rw [ev_tmp]; exact e1) (by rw [ev_tmp]; exact e2) s8
  simp (disch:=omega) only [RSf.down,lssF,l0,WDV_succ,WDV_zero,f8,WDE_some,checks,lower,recheck,AOp.cls,AV.beq_refl,cond_true,true_and,l8]
  rw [hbl _ rfl rfl]
  simp (disch:=omega) only [RSf.down,e9]
  refine ⟨(fun i hi=>by cases hi),_,result_ct rfl (loadV_two (AHeap.get_set_same _ _ _)),v8,cb,rfl,?_,((g2.trans g05).trans g8).set (by omega) _⟩
  have c8:cellsOf h8 (h.next+1)=some [.int .i64 0,.nils]:=cellsOf_get r8
  have k9:Chg (fun j=>j=h.next+1) h8 (h8.set (h.next+1) (.cells [.int .i64 (n:Int),v8] true)):=Chg.set (F:=fun j=>j=h.next+1) h8 rfl _
  refine ⟨p8.own.chg k9 fun j hj e=>?_,p8.len,fun i a p ha hp=>?_⟩
  ·have:=p8.own.get hj
   rw [e,r8] at this; cases this
   exact p8.sls _ (.head _) _ _ rfl
  ·have hpm:=List.mem_of_getElem? hp
   have hpv:=elsOf_pv hSv hel hH p (red_mem hpm)
   exact (p8.el i a p ha hp).stayB k9 c8 (by rw [hpv.len]; exact two_le hpv ((red_new p hpm).resolve_left (by simp)))
end
end Go.AM
namespace Go.AM
open Go Go.GT
theorem err_zero {n:Nat} (hn:n <= 20) {S:List Pm} (hl:S.length <= 32) (hS:∀ s∈S,PV n s):groupErr (n:Int) (S.map zs)=0:=by
 unfold groupErr
 have h0:degErr (n:Int)=0:=by unfold degErr; rw [if_neg (by omega),if_neg (by omega)]
 rw [if_neg (fun h=>h h0),if_neg (by rw [List.length_map]; omega)]
 refine firstE_zero fun i hi=>?_
 rw [List.length_map] at hi
 obtain ⟨s,hs⟩:=get_some hi
 rw [getD_some (show (S.map zs)[i]?=some (zs s) by rw [List.getElem?_map,hs]; rfl)]
 have hp:=hS s (List.mem_of_getElem? hs)
 unfold genErr
 rw [ok_of_perm hp hn,zs_len,hp.len]
 simp
theorem gS_zs {S:List Pm}:gS (S.map zs)=S:=by
 unfold gS; rw [List.map_map]
 exact List.map_id'' (fun p=>zs_ns) S
theorem PL.lsAt {h:AHeap} {v:AV} {c:List AV} {S:List Pm} (p:PL h v c S):LsAt h v (S.map zs) :=
 ⟨c,p.own.at,by rw [List.length_map]; exact p.len,fun i a x hi hx=>by
  rw [List.getElem?_map] at hx
  cases e:S[i]? with
  | none=>rw [e] at hx; cases hx
  | some s =>
   rw [e] at hx; cases hx
   have:=p.el i a s hi e
   have e2:pc s=ic (zs s):=by unfold pc ic zs; rw [List.map_map]; rfl
   unfold PmAt at this
   rw [e2] at this; exact this⟩
theorem red_all {n:Nat}:∀ {M A:List Pm},(∀ q∈M,PV n q)->(∀ q∈A,PV n q)->(∀ a∈A,a∈M.foldl (redS n) A)/\(∀ q∈M,Gen n (M.foldl (redS n) A) q)
 | [],A,_,_=>⟨fun a ha=>ha,fun q hq=>by cases hq⟩
 | q :: M,A,hM,hA=>by
  rw [List.foldl_cons]
  have hq:=hM q (.head _)
  have hA':∀ x∈redS n A q,PV n x:=fun x hx=>by
   by_cases e:Gen n A q
   ·rw [redS_in e] at hx; exact hA x hx
   ·rw [redS_out e] at hx
    rcases List.mem_append.1 hx with h | h
    ·exact hA x h
    ·rw [List.mem_singleton.1 h]; exact hq
  obtain ⟨i1,i2⟩:=red_all (n:=n) (M:=M) (A:=redS n A q) (fun x hx=>hM x (.tail _ hx)) hA'
  have hpv:∀ s∈M.foldl (redS n) (redS n A q),PV n s:=fun s hs=>by
   rcases red_sub s hs with h | h
   ·exact hA' s h
   ·exact hM s (.tail _ h)
  have hsub:∀ a∈A,a∈redS n A q:=fun a ha=>by
   by_cases e:Gen n A q
   ·rw [redS_in e]; exact ha
   ·rw [redS_out e]; exact List.mem_append_left _ ha
  refine ⟨fun a ha=>i1 a (hsub a ha),fun x hx=>?_⟩
  rcases List.mem_cons.1 hx with e | hx
  ·subst e
   have:Gen n (redS n A x) x:=by
    by_cases e:Gen n A x
    ·rw [redS_in e]; exact e
    ·rw [redS_out e]
     exact .of (fun s hs=>by
      rcases List.mem_append.1 hs with h | h
      ·exact hA s h
      ·rw [List.mem_singleton.1 h]; exact hq) (List.mem_append_right _ (.head _))
   exact this.mono hpv fun s hs=>.of hpv (i1 s hs)
  ·exact i2 x hx
theorem red_iff {n:Nat} {M:List Pm} (hM:∀ q∈M,PV n q) {p:Pm}:Gen n (red n M) p ↔ Gen n M p:=by
 have hr:∀ s∈red n M,PV n s:=fun s hs=>hM s (red_mem hs)
 exact ⟨fun h=>h.mono hM fun s hs=>.of hM (red_mem hs),fun h=>h.mono hr fun s hs=>(red_all hM (fun q hq=>by cases hq)).2 s hs⟩
theorem elsOf_el {n:Nat} {S l:List Pm} (hS:∀ s∈S,PV n s) (h:IsEl n S l) {H:List Nat} (hH:GT.Sub l.length (op l) H):IsEl n (red n (elsOf l H)) (elsOf l H):=by
 have hpv:=elsOf_pv hS h hH.lt
 refine ⟨?_,fun p=>?_⟩
 ·unfold Asc elsOf
  rw [List.pairwise_map]
  exact List.Pairwise.imp_of_mem (fun {a b} ha hb hab=>h.asc.lt hab (get_el (hH.lt a ha)) (get_el (hH.lt b hb))) hH.asc
 ·rw [red_iff hpv]
  exact ⟨fun hp=>.of hpv hp,elsOf_cl hS h hH p⟩
end Go.AM
namespace Go.AM
open Go Go.GT
section
variable {I:Oracle} (hS:Srt I) {h:AHeap}
include hS
theorem pelements_spec {vg : AV} {ls : List (List Int)} (hg : LsAt h vg ls) {d : Int} (hc : groupErr d ls=0) {l : List Pm} (hel : IsEl d.toNat (gS ls) l) (hl : l.length <= 5040) :
  ∃ v cb h',lim otab.get I (.fn 200) [.agg [.int .i64 d,vg]] h=some (.tup [v,.int .i64 0],h')/\PL h' v cb l/\Gro h h'/\∀ j,oid v=some j->h.next <= j:=by
 have hNo:=hS.no
 obtain ⟨n,rfl,hn,hl32,hls,hSv⟩:=group_of_ok hc
 rw [Int.toNat_natCast] at hel
 have hB:Bnd n (gS ls) 5040:=⟨l,fun p hp=>(hel.mem p).2 hp,hl⟩
 have g1:=Gro.push h (.cells [.int .i64 (n:Int),vg] true)
 have ba:=fun {h'} (g:Gro _ h')=>box_all (h:=h) (c:=[.int .i64 (n:Int),vg]) (r:=true) (h':=h') g (n:=2) rfl
 obtain ⟨h2,f2,g2⟩:=gcheck hNo (hg.gro g1) (n:Int)
 rw [hc] at f2
 have b1:=ba (Gro.refl _)
 have b20:=box_ld (h:=h) (c:=[.int .i64 (n:Int),vg]) (r:=true) g2 (o:=0) (x := .int .i64 (n:Int)) rfl
 have b21:=box_ld (h:=h) (c:=[.int .i64 (n:Int),vg]) (r:=true) g2 (o:=1) (x:=vg) rfl
 have hp:=((hg.gro g1).gro g2).pms hls
 have key:∃ v cb h',lim otab.get I (.fn 233) [.int .i64 (n:Int),vg] h2=some (.tup [v,.int .i64 0],h')/\PL h' v cb l/\Gro h2 h'/\∀ j,oid v=some j->h2.next <= j:=by
  obtain ⟨ic,h3,lab,ids,c,f3,C,g3,hic⟩:=cnew_spec hNo hn hp hSv (by unfold gS; rw [List.length_map]; omega) hB
  have f4:=corder_spec hNo C hn hSv hB
  obtain ⟨e1,e2,e3⟩:=C.els hSv
  have hE:IsEl n (gS ls) (els c 0 (one n)):=⟨asc_els C.ok (PV.one n),e3⟩
  have hEl:=hE.unique hel
  have ho:ordC c <= 5040:=by rw [<- e2,hEl]; exact hl
  obtain ⟨v,cb,h5,f5,g5,p5,fr,_⟩:=celements_spec hS C.at_ hn C.ok C.cl ho
  rw [hEl] at p5
  refine (lim_walk_ex (T:=otab.get) (I:=I) (f:=233) (fn:=of233) rfl (a:=[.int .i64 (n:Int),vg]) (h:=h2) (P:=fun a h'=>∃ v cb,a = .tup [v,.int .i64 0]/\PL h' v cb l/\Gro h2 h'/\∀ j,oid v=some j->h2.next <= j) (hNo.at _ _ (by decide) (by decide) (by decide)) ?_) |> fun ⟨a,h',e,v,cb,q1,q2⟩=>⟨v,cb,h',by rw [e,q1],q2⟩
  show WK _ _ [] ⟨[.int .i64 (n:Int),vg,aundef,aundef],h2⟩ _
  dsimp only [of233,Z.t,Z.f,Z.i,Z.q,Z.m,Z.l,Z.b,Z.c,Z.w]
  simp (disch:=omega) only [RSf.down,f3,f4,gtrF,f5]
  exact ⟨(fun i hi=>by cases hi),_,rfl,v,cb,rfl,p5,g3.trans g5,fun j hj=>Nat.le_trans g3.le (fr j hj)⟩
 obtain ⟨v,cb,h3,f3,p3,g3,fr⟩:=key
 refine (lim_walk_ex (T:=otab.get) (I:=I) (f:=200) (fn:=of200) rfl (a:=[.agg [.int .i64 (n:Int),vg]]) (h:=h) (P:=fun a h'=>∃ v cb,a = .tup [v,.int .i64 0]/\PL h' v cb l/\Gro h h'/\∀ j,oid v=some j->h.next <= j) (hNo.at _ _ (by decide) (by decide) (by decide)) ?_) |> fun ⟨a,h',e,v,cb,q1,q2⟩=>⟨v,cb,h',by rw [e,q1],q2⟩
 show WK _ _ [] ⟨[.agg [.int .i64 (n:Int),vg],aundef,aundef],h⟩ _
 dsimp only [of200,Z.t,Z.f,Z.i,Z.q,Z.m,Z.l,Z.b,Z.c,Z.w]
 simp (disch:=omega) only [RSf.down,b1,f2,neqF,b20,b21,f3]
 exact ⟨(fun i hi=>by cases hi),_,rfl,v,cb,rfl,p3,g1.trans (g2.trans g3),fun j hj=>by have:=fr j hj; have:=(g1.trans g2).le; omega⟩
end
end Go.AM
namespace Go.AM
open Go Go.GT
def Soft (F:Nat->Prop) (h:AHeap):Prop:=∀ i,i < h.next->F i->cellsOf h i=none \/ ∃ L r,h.get i=some (.cells L r)/\Sls L
theorem PmAt.stayG {F:Nat->Prop} {h h':AHeap} {v:AV} {p:Pm} (s:PmAt h v p) (c:Chg F h h') (hF:Soft F h):PmAt h' v p:=by
 rcases s with s | ⟨i,o,cap,full,h1,h2,h3,h5⟩
 ·exact .inl s
 ·refine .inr ⟨i,o,cap,full,h1,Nat.lt_of_lt_of_le h2 c.le,fun hp=>?_,h5⟩
  obtain ⟨e1,e2⟩:=h3 hp
  have hn:¬ F i:=fun hf=>by
   rcases hF i h2 hf with e0 | ⟨L,r,hg,hL⟩
   ·rw [e0] at e1; cases e1
   ·rw [cellsOf_get hg] at e1
    cases e1
    have hpos:0 < p.length:=List.length_pos_iff.2 fun e=>hp (by rw [e]; rfl)
    obtain ⟨k1,k2,k3⟩:=cut_spec e2
    have h4:=k3 0 (by rw [pc_len]; exact hpos)
    rw [pc_get hpos] at h4
    exact hL _ (List.mem_of_getElem? h4.symm) _ _ rfl
  rw [c.cells h2 hn]; exact ⟨e1,e2⟩
theorem PL.stayG {F:Nat->Prop} {h h':AHeap} {v:AV} {c:List AV} {ps:List Pm} (s:PL h v c ps) (k:Chg F h h') (hF:Soft F h) (ho:∀ i,oid v=some i->¬ F i):PL h' v c ps :=
 ⟨s.own.chg k ho,s.len,fun i a p ha hp=>(s.el i a p ha hp).stayG k hF⟩
theorem PL.soft {h:AHeap} {v:AV} {c:List AV} {ps:List Pm} (s:PL h v c ps):Soft (fun j=>oid v=some j) h:=fun i hi e=>.inr (s.own_sls i hi e)
theorem soft_map {h:AHeap} {im:Nat} {es:List (AV × AV)} (hg:h.get im=some (.map es)):Soft (fun j=>j=im) h:=fun i _ e=>.inl (by rw [e]; unfold cellsOf; rw [hg])
end Go.AM
namespace Go.AM
open Go Go.GT
abbrev Gd:=Int × AV × List (List Int)
def gd0:Gd:=(0,.nils,[])
def gE (G:List Gd) (i:Nat):Int:=groupErr (G.getD i gd0).1 (G.getD i gd0).2.2
end Go.AM
namespace Go.AM
open Go Go.GT
theorem PmAt.nil_any {h h':AHeap} {v:AV} (s:PmAt h v []) (hn:h.next <= h'.next):PmAt h' v []:=by
 rcases s with s | ⟨i,o,cap,full,h1,h2,h3,h5⟩
 ·exact .inl s
 ·exact .inr ⟨i,o,cap,full,h1,Nat.lt_of_lt_of_le h2 hn,fun hp=>absurd rfl hp,h5⟩
theorem lookup_snoc {E:List (Pm × Nat)} {q x:Pm} {v:Nat}:(E ++ [(q,v)]).lookup x=match E.lookup x with | some y=>some y | none=>if x=q then some v else none:=by
 induction E with
 | nil =>
  show List.lookup x [(q,v)]=if x=q then some v else none
  by_cases e:x=q
  ·subst e; rw [if_pos rfl,List.lookup_cons_self]
  ·have:(x == q)=false:=by rw [Bool.eq_false_iff]; intro hh; exact e (eq_of_beq hh)
   rw [if_neg e,List.lookup_cons,this]; rfl
 | cons a E ih =>
  obtain ⟨b,w⟩:=a
  rw [List.cons_append,List.lookup_cons,List.lookup_cons]
  cases x == b with
  | true=>rfl
  | false=>exact ih
end Go.AM
namespace Go.AM
open Go Go.GT
theorem filt_succ {α:Type} {L:List α} {f:α->Bool} {k:Nat} {x:α} (h:L[k]?=some x):(L.take (k+1)).filter f=(L.take k).filter f ++ if f x=true then [x] else []:=by
 have e:L.take (k+1)=L.take k ++ [x]:=by rw [List.take_add_one,h]; rfl
 rw [e,List.filter_append,List.filter_cons,List.filter_nil]
theorem filt_at {α:Type} {L:List α} {f:α->Bool} {k:Nat} {x:α} (h:L[k]?=some x) (hf:f x=true):(L.filter f)[((L.take k).filter f).length]?=some x:=by
 have e:L=L.take k ++ x :: L.drop (k+1):=by
  obtain ⟨hk,rfl⟩:=List.getElem?_eq_some_iff.1 h
  rw [<- List.drop_eq_getElem_cons hk,List.take_append_drop]
 conv=>lhs; rw [e]
 rw [List.filter_append,List.filter_cons,if_pos hf,List.take_append_of_le_length (by rw [List.length_take]; have:=(List.getElem?_eq_some_iff.1 h).1; omega),List.take_take,Nat.min_self,List.getElem?_append_right (Nat.le_refl _),Nat.sub_self]; rfl
def fsT (N:Nat) (m:Nat->Nat->Nat) (K:List Nat) (k:Nat):List Nat:=((List.range N).take k).filter fun x=>rep N m K x == x
theorem fsT_all {N:Nat} {m:Nat->Nat->Nat} {K:List Nat}:fsT N m K N=fst N m K:=by
 unfold fsT fst; rw [List.take_of_length_le (by rw [List.length_range]; exact Nat.le_refl _)]
theorem stV_four {h:AHeap} {i:Nat} {x y z w a b c d:AV} (hg:h.get i=some (.cells [a,b,c,d] true)) (hx:x.scalar=true) (hy:y.scalar=true) (hz:z.scalar=true) (hw:w.scalar=true):stV 4 (.ptr i 0) (.agg [x,y,z,w]) h=some (aundef,h.set i (.cells [x,y,z,w] true)):=by
 have ho:ownOf h i=some [a,b,c,d]:=by unfold ownOf; rw [hg]
 show (match ownOf h i with | some c=>if (AV.agg [x,y,z,w]).cells.length=4/\(AV.agg [x,y,z,w]).cells.all AV.scalar=true then match lay c 0 (AV.agg [x,y,z,w]).cells with | some c'=>some (aundef,h.set i (.cells c' true)) | none=>none else none | none=>none)=_
 rw [ho]
 have hc:(AV.agg [x,y,z,w]).cells=[x,y,z,w]:=rfl
 have hs:[x,y,z,w].all AV.scalar=true:=by simp [hx,hy,hz,hw]
 simp only [hc]
 rw [if_pos ⟨rfl,hs⟩]; rfl
theorem loadV_four {h:AHeap} {i:Nat} {x y z w:AV} {r:Bool} (hg:h.get i=some (.cells [x,y,z,w] r)):loadV (some 4) (.ptr i 0) h=some (.agg [x,y,z,w]):=by
 show (match cellsOf h i with | some c=>fit (some 4) 0 c | none=>none)=_
 rw [cellsOf_get hg]; rfl
theorem soft_cells {h:AHeap} {c:Nat} {L:List AV} {r:Bool} (hg:h.get c=some (.cells L r)) (hs:Sls L):Soft (fun j=>j=c) h:=fun i _ e=>.inr ⟨L,r,by rw [e]; exact hg,hs⟩
theorem sls_four {a b c:AV} {im:Nat} (ha:∀ k n,a ≠ .int k n) (hb:∀ k n,b ≠ .int k n) (hc:∀ k n,c ≠ .int k n):Sls [a,b,c,.map im]:=fun x hx=>by
 simp only [List.mem_cons,List.not_mem_nil,or_false] at hx
 rcases hx with rfl | rfl | rfl | rfl
 ·exact ha
 ·exact hb
 ·exact hc
 ·exact fun _ _ e=>by cases e
theorem sls_all4:Sls [.nils,.nils,.nils,.nilm]:=fun x hx=>by
 simp only [List.mem_cons,List.not_mem_nil,or_false] at hx
 rcases hx with rfl | rfl | rfl | rfl <;> exact fun _ _ e=>by cases e
theorem PL.nint {h:AHeap} {v:AV} {c:List AV} {ps:List Pm} (s:PL h v c ps):∀ k n,v ≠ .int k n:=fun k n e=>by
 subst e
 rcases s.own with ⟨e,_⟩ | ⟨_,_,e,_⟩ <;> cases e
structure CsS (h:AHeap) (a:Nat) (h':AHeap) (ve vs vf:AV) (ce cs cf:List AV) (l lu F:List Pm) (E:List (Pm × Nat)):Prop where
 gro:Gro h h'
 le:a <= h'.next
 rc:h'.get (h.next+4)=some (.cells [ve,vs,vf,.map (h.next+3)] true)
 rm:h'.get (h.next+3)=some (.map (smp E))
 rr:h'.get (h.next+2)=some (.cells [.nils,.nils,.nils,.nilm] true)
 pe:PL h' ve ce l
 ps:PL h' vs cs lu
 pf:PL h' vf cf F
 fr:∀ j,oid vf=some j->a <= j
section
variable {h h' h2:AHeap} {a:Nat} {ve vs vf:AV} {ce cs cf:List AV} {l lu F:List Pm} {E E':List (Pm × Nat)} (S:CsS h a h' ve vs vf ce cs cf l lu F E) (ha:h.next+5 <= a) (hve:∀ j,oid ve=some j->h.next+5 <= j/\j < a) (hvs:∀ j,oid vs=some j->h.next+5 <= j/\j < a)
include S ha
theorem CsS.step (g:Gro h' h2):CsS h a h2 ve vs vf ce cs cf l lu F E:=by
 have:=S.le
 exact ⟨S.gro.trans g,Nat.le_trans S.le g.le,by rw [g.same _ (by omega)]; exact S.rc,by rw [g.same _ (by omega)]; exact S.rm,by rw [g.same _ (by omega)]; exact S.rr,S.pe.gro g,S.ps.gro g,S.pf.gro g,S.fr⟩
include hve hvs
theorem CsS.put:CsS h a (h'.set (h.next+3) (.map (smp E'))) ve vs vf ce cs cf l lu F E':=by
 have ch:Chg (fun j=>j=h.next+3) h' (h'.set (h.next+3) (.map (smp E'))):=Chg.set (F:=fun j=>j=h.next+3) h' rfl _
 have sf:=soft_map S.rm
 exact ⟨S.gro.set (by omega) _,S.le,by rw [AHeap.get_set_ne _ _ (by omega)]; exact S.rc,AHeap.get_set_same _ _ _,by rw [AHeap.get_set_ne _ _ (by omega)]; exact S.rr,S.pe.stayG ch sf (fun i hi e=>by have:=hve i hi; omega),S.ps.stayG ch sf (fun i hi e=>by have:=hvs i hi; omega),S.pf.stayG ch sf (fun i hi e=>by have:=S.fr i hi; omega),S.fr⟩
theorem CsS.app {x:AV} {p:Pm} (hx:PmAt h' x p) (hl:F.length <= 100000):∃ b' h2,bslV x h'=some (.cells [x] true,.slice h'.next 0 1 (.exact 1))/\appV 1 24 vf (.slice h'.next 0 1 (.exact 1)) (h'.push (.cells [x] true))=some (b',h2)/\stV 1 (.ptr (h.next+4) 2) b' h2=some (aundef,h2.set (h.next+4) (.cells [ve,vs,b',.map (h.next+3)] true))/\CsS h a (h2.set (h.next+4) (.cells [ve,vs,b',.map (h.next+3)] true)) ve vs b' ce cs (cf ++ [x]) l lu (F ++ [p]) E:=by
 obtain ⟨e1,b',h2,k1,k2,k3,k4,k5⟩:=S.pf.app hx (by omega)
 have l1:=S.le
 have n4:oid vf ≠ some (h.next+4):=fun e=>by have:=S.fr _ e; omega
 have n3:oid vf ≠ some (h.next+3):=fun e=>by have:=S.fr _ e; omega
 have n2:oid vf ≠ some (h.next+2):=fun e=>by have:=S.fr _ e; omega
 have rc2:h2.get (h.next+4)=some (.cells [ve,vs,vf,.map (h.next+3)] true):=by rw [k3.same _ (by omega) n4]; exact S.rc
 have ch:Chg (fun j=>j=h.next+4) h2 (h2.set (h.next+4) (.cells [ve,vs,b',.map (h.next+3)] true)):=Chg.set (F:=fun j=>j=h.next+4) h2 rfl _
 have sf:=soft_cells rc2 (sls_four S.pe.nint S.ps.nint S.pf.nint)
 have sp:=S.pf.soft
 refine ⟨b',h2,e1,k1,stV_at (k:=2) rc2 (by simp) k2.own.at.scalar,(S.gro.chg_new k3 fun j hj=>by have:=S.fr j hj; omega).set (by omega) _,by have:=k3.le; show a <= h2.next; omega,AHeap.get_set_same _ _ _,by rw [AHeap.get_set_ne _ _ (by omega),k3.same _ (by omega) n3]; exact S.rm,by rw [AHeap.get_set_ne _ _ (by omega),k3.same _ (by omega) n2]; exact S.rr,(S.pe.stayG k3 sp fun i hi e=>by have:=hve i hi; have:=S.fr i e; omega).stayG ch sf (fun i hi e=>by have:=hve i hi; omega),(S.ps.stayG k3 sp fun i hi e=>by have:=hvs i hi; have:=S.fr i e; omega).stayG ch sf (fun i hi e=>by have:=hvs i hi; omega),k2.stayG ch sf (fun i hi e=>by rw [k4] at hi; cases hi; omega),fun j hj=>by rw [k4] at hj; cases hj; omega⟩
end
section
variable {I:Oracle} (hS:Srt I) {h:AHeap}
include hS
theorem cosets_spec {n : Nat} {vg vu : AV} {ls lu : List (List Int)} {l : List Pm} {K : List Nat} (hg : LsAt h vg ls) (hu : LsAt h vu lu) (hc : groupErr (n : Int) ls=0) (hcu : groupErr (n : Int) lu=0) (hel : IsEl n (gS ls) l) (helu : IsEl n (gS lu) (elsOf l K)) (hK : GT.Sub l.length (op l) K) (hl : l.length <= 120) (hn : n <= 20) :
  ∃ a b vf cf im E h',lim otab.get I (.fn 129) [.agg [.int .i64 (n:Int),vg],.agg [.int .i64 (n:Int),vu]] h=some (.agg [a,b,vf,.map im],h')/\a.scalar=true/\b.scalar=true/\PL h' vf cf (elsOf l (fst l.length (op l) K))/\h'.get im=some (.map (smp E))/\im < h'.next/\Gro h h'/\(∀ x,x < l.length->E.lookup (el l x)=some (cix l.length (op l) K x)):=by
 have hNo:=hS.no
 obtain ⟨n1,en,_,_,_,hSv⟩:=group_of_ok hc
 obtain rfl:n1=n:=by omega
 obtain ⟨n2,en2,_,_,_,hSu⟩:=group_of_ok hcu
 obtain rfl:n1=n2:=by omega
 have hT:=hel.tg hSv
 refine (lim_walk_ex (T:=otab.get) (I:=I) (f:=129) (fn:=of129) rfl (a:=[.agg [.int .i64 (n1:Int),vg],.agg [.int .i64 (n1:Int),vu]]) (h:=h) (P:=fun r h'=>∃ a b vf cf im E,r = .agg [a,b,vf,.map im]/\a.scalar=true/\b.scalar=true/\PL h' vf cf (elsOf l (fst l.length (op l) K))/\h'.get im=some (.map (smp E))/\im < h'.next/\Gro h h'/\(∀ x,x < l.length->E.lookup (el l x)=some (cix l.length (op l) K x))) (hNo.at _ _ (by decide) (by decide) (by decide)) ?_) |> fun ⟨r,h',e,a,b,vf,cf,im,E,q1,q2⟩=>⟨a,b,vf,cf,im,E,h',by rw [e,q1],q2⟩
 show WK _ _ [] ⟨[.agg [.int .i64 (n1:Int),vg],.agg [.int .i64 (n1:Int),vu],aundef,aundef,aundef,aundef,aundef,aundef,aundef,aundef,aundef,aundef],h⟩ _
 dsimp only [of129,Z.t,Z.f,Z.i,Z.q,Z.m,Z.l,Z.b,Z.c,Z.w]
 have y1:=Gro.push h (.cells [.int .i64 (n1:Int),vg] true)
 have y2:=Gro.push (h.push (.cells [.int .i64 (n1:Int),vg] true)) (.cells [.int .i64 (n1:Int),vu] true)
 have x1:(h.push (.cells [.int .i64 (n1:Int),vg] true)).next=h.next+1:=rfl
 have x2:((h.push (.cells [.int .i64 (n1:Int),vg] true)).push (.cells [.int .i64 (n1:Int),vu] true)).next=h.next+2:=rfl
 have ba:=fun {h'} (g:Gro _ h')=>box_all (h:=h) (c:=[.int .i64 (n1:Int),vg]) (r:=true) (h':=h') (y2.trans g) (n:=2) rfl
 have bb:=fun {h'} (g:Gro _ h')=>box_all (h:=h.push (.cells [.int .i64 (n1:Int),vg] true)) (c:=[.int .i64 (n1:Int),vu]) (r:=true) (h':=h') g (n:=2) rfl
 rw [x1] at bb
 have g2:=y1.trans y2
 simp (disch:=omega) only [RSf.down,x1,x2]
 generalize (h.push (.cells [.int .i64 (n1:Int),vg] true)).push (.cells [.int .i64 (n1:Int),vu] true)=h2 at g2 ba bb x2 ⊢
 have eb:∀ tm:List AV,nth tm 1 = .map (h2.push (.cells [.nils,.nils,.nils,.nilm] true)).next->∀ hh,evalQ (.build [.nils,.nils,.nils,.nilm] [(3,1,.tmp 1)]) tm hh=some (.agg [.nils,.nils,.nils,.map (h.next+3)]):=fun tm e hh=>by
  simp only [evalQ,fills,ev_tmp,e,AHeap.next_push,x2]; rfl
 rw [eb _ rfl]
 have y3:=Gro.push h2 (.cells [.nils,.nils,.nils,.nilm] true)
 have y4:=Gro.push (h2.push (.cells [.nils,.nils,.nils,.nilm] true)) (.map [])
 have y5:=Gro.push ((h2.push (.cells [.nils,.nils,.nils,.nilm] true)).push (.map [])) (.cells [.nils,.nils,.nils,.nilm] true)
 have x3:(h2.push (.cells [.nils,.nils,.nils,.nilm] true)).next=h.next+3:=by rw [AHeap.next_push,x2]
 have x4:((h2.push (.cells [.nils,.nils,.nils,.nilm] true)).push (.map [])).next=h.next+4:=by rw [AHeap.next_push,x3]
 have x5:(((h2.push (.cells [.nils,.nils,.nils,.nilm] true)).push (.map [])).push (.cells [.nils,.nils,.nils,.nilm] true)).next=h.next+5:=by rw [AHeap.next_push,x4]
 have rC:=AHeap.get_push_same ((h2.push (.cells [.nils,.nils,.nils,.nilm] true)).push (.map [])) (.cells [.nils,.nils,.nils,.nilm] true)
 rw [x4] at rC
 have rM:(((h2.push (.cells [.nils,.nils,.nils,.nilm] true)).push (.map [])).push (.cells [.nils,.nils,.nils,.nilm] true)).get (h.next+3)=some (.map (smp [])):=by
  rw [AHeap.get_push_lt _ _ (by omega)]
  have:=AHeap.get_push_same (h2.push (.cells [.nils,.nils,.nils,.nilm] true)) (.map [])
  rw [x3] at this; exact this
 have rR:(((h2.push (.cells [.nils,.nils,.nils,.nilm] true)).push (.map [])).push (.cells [.nils,.nils,.nils,.nilm] true)).get (h.next+2)=some (.cells [.nils,.nils,.nils,.nilm] true):=by
  rw [AHeap.get_push_lt _ _ (by omega),AHeap.get_push_lt _ _ (by omega)]
  have:=AHeap.get_push_same h2 (.cells [.nils,.nils,.nils,.nilm] true)
  rw [x2] at this; exact this
 have g5:=g2.trans (y3.trans (y4.trans y5))
 have z25:=y3.trans (y4.trans y5)
 have e5:stV 4 (.ptr (h.next+4) 0) (.agg [.nils,.nils,.nils,.map (h.next+3)]) (((h2.push (.cells [.nils,.nils,.nils,.nilm] true)).push (.map [])).push (.cells [.nils,.nils,.nils,.nilm] true))=some (aundef,(((h2.push (.cells [.nils,.nils,.nils,.nilm] true)).push (.map [])).push (.cells [.nils,.nils,.nils,.nilm] true)).set (h.next+4) (.cells [.nils,.nils,.nils,.map (h.next+3)] true)):=stV_four rC rfl rfl rfl rfl
 simp (disch:=omega) only [RSf.down,x3,x4,e5]
 have g6:=g5.set (show h.next <= h.next+4 by omega) (.cells [.nils,.nils,.nils,.map (h.next+3)] true)
 have z26:=z25.set (show h2.next <= h.next+4 by omega) (.cells [.nils,.nils,.nils,.map (h.next+3)] true)
 have rC6:((((h2.push (.cells [.nils,.nils,.nils,.nilm] true)).push (.map [])).push (.cells [.nils,.nils,.nils,.nilm] true)).set (h.next+4) (.cells [.nils,.nils,.nils,.map (h.next+3)] true)).get (h.next+4)=some (.cells [.nils,.nils,.nils,.map (h.next+3)] true):=AHeap.get_set_same _ _ _
 have rM6:((((h2.push (.cells [.nils,.nils,.nils,.nilm] true)).push (.map [])).push (.cells [.nils,.nils,.nils,.nilm] true)).set (h.next+4) (.cells [.nils,.nils,.nils,.map (h.next+3)] true)).get (h.next+3)=some (.map (smp [])):=by rw [AHeap.get_set_ne _ _ (by omega)]; exact rM
 have rR6:((((h2.push (.cells [.nils,.nils,.nils,.nilm] true)).push (.map [])).push (.cells [.nils,.nils,.nils,.nilm] true)).set (h.next+4) (.cells [.nils,.nils,.nils,.map (h.next+3)] true)).get (h.next+2)=some (.cells [.nils,.nils,.nils,.nilm] true):=by rw [AHeap.get_set_ne _ _ (by omega)]; exact rR
 have x6:((((h2.push (.cells [.nils,.nils,.nils,.nilm] true)).push (.map [])).push (.cells [.nils,.nils,.nils,.nilm] true)).set (h.next+4) (.cells [.nils,.nils,.nils,.map (h.next+3)] true)).next=h.next+5:=by rw [AHeap.next_set,x5]
 generalize (((h2.push (.cells [.nils,.nils,.nils,.nilm] true)).push (.map [])).push (.cells [.nils,.nils,.nils,.nilm] true)).set (h.next+4) (.cells [.nils,.nils,.nils,.map (h.next+3)] true)=h6 at g6 z26 rC6 rM6 rR6 x6 ⊢
 clear e5 rC rM rR x3 x4 x5 y3 y4 y5 eb
 have b6:=ba z26
 obtain ⟨ve,ce,h7,f7,p7,g7,fr7⟩:=pelements_spec hS (hg.gro g6) hc (by rw [Int.toNat_natCast]; exact hel) (by omega)
 have rC7:h7.get (h.next+4)=some (.cells [.nils,.nils,.nils,.map (h.next+3)] true):=by rw [g7.same _ (by omega)]; exact rC6
 have e7:stV 1 (.ptr (h.next+4) 0) ve h7=some (aundef,h7.set (h.next+4) (.cells [ve,.nils,.nils,.map (h.next+3)] true)):=stV_at (k:=0) rC7 (by simp) p7.own.at.scalar
 have c7:Chg (fun j=>j=h.next+4) h7 (h7.set (h.next+4) (.cells [ve,.nils,.nils,.map (h.next+3)] true)):=Chg.set (F:=fun j=>j=h.next+4) h7 rfl _
 have s7:=soft_cells rC7 (sls_four (a := .nils) (b := .nils) (c := .nils) (im:=h.next+3) (fun _ _ e=>by cases e) (fun _ _ e=>by cases e) (fun _ _ e=>by cases e))
 have l7:=g7.le
 have p8:=p7.stayG c7 s7 (fun i hi e=>by have:=fr7 i hi; omega)
 have g8:=(g6.trans g7).set (show h.next <= h.next+4 by omega) (.cells [ve,.nils,.nils,.map (h.next+3)] true)
 have z28:=(z26.trans g7).set (show h2.next <= h.next+4 by omega) (.cells [ve,.nils,.nils,.map (h.next+3)] true)
 have rC8:(h7.set (h.next+4) (.cells [ve,.nils,.nils,.map (h.next+3)] true)).get (h.next+4)=some (.cells [ve,.nils,.nils,.map (h.next+3)] true):=AHeap.get_set_same _ _ _
 have rM8:(h7.set (h.next+4) (.cells [ve,.nils,.nils,.map (h.next+3)] true)).get (h.next+3)=some (.map (smp [])):=by rw [AHeap.get_set_ne _ _ (by omega),g7.same _ (by omega)]; exact rM6
 have rR8:(h7.set (h.next+4) (.cells [ve,.nils,.nils,.map (h.next+3)] true)).get (h.next+2)=some (.cells [.nils,.nils,.nils,.nilm] true):=by rw [AHeap.get_set_ne _ _ (by omega),g7.same _ (by omega)]; exact rR6
 have x8:(h7.set (h.next+4) (.cells [ve,.nils,.nils,.map (h.next+3)] true)).next=h7.next:=AHeap.next_set _ _ _
 have b8:=bb z28
 simp (disch:=omega) only [RSf.down,b6,f7,e7,b8]
 generalize h7.set (h.next+4) (.cells [ve,.nils,.nils,.map (h.next+3)] true)=h8 at c7 p8 g8 z28 rC8 rM8 rR8 x8 b8 ⊢
 obtain ⟨vs,cs,h9,f9,p9,g9,fr9⟩:=pelements_spec hS (hu.gro g8) hcu (l:=elsOf l K) (by rw [Int.toNat_natCast]; exact helu) (by
  unfold elsOf; rw [List.length_map]
  have:=nodup_le hK.nd (l':=List.range l.length) (fun x hx=>List.mem_range.2 (hK.lt x hx))
  rw [List.length_range] at this; omega)
 have l9:=g9.le
 have rC9:h9.get (h.next+4)=some (.cells [ve,.nils,.nils,.map (h.next+3)] true):=by rw [g9.same _ (by omega)]; exact rC8
 have e9:stV 1 (.ptr (h.next+4) 1) vs h9=some (aundef,h9.set (h.next+4) (.cells [ve,vs,.nils,.map (h.next+3)] true)):=stV_at (k:=1) rC9 (by simp) p9.own.at.scalar
 have c9:Chg (fun j=>j=h.next+4) h9 (h9.set (h.next+4) (.cells [ve,vs,.nils,.map (h.next+3)] true)):=Chg.set (F:=fun j=>j=h.next+4) h9 rfl _
 have s9:=soft_cells rC9 (sls_four (a:=ve) (b := .nils) (c := .nils) (im:=h.next+3) p7.nint (fun _ _ e=>by cases e) (fun _ _ e=>by cases e))
 have pE:=(p8.gro g9).stayG c9 s9 (fun i hi e=>by have:=fr7 i hi; omega)
 have pS:=p9.stayG c9 s9 (fun i hi e=>by have:=fr9 i hi; omega)
 have gA:=(g8.trans g9).set (show h.next <= h.next+4 by omega) (.cells [ve,vs,.nils,.map (h.next+3)] true)
 have rCA:(h9.set (h.next+4) (.cells [ve,vs,.nils,.map (h.next+3)] true)).get (h.next+4)=some (.cells [ve,vs,.nils,.map (h.next+3)] true):=AHeap.get_set_same _ _ _
 have rMA:(h9.set (h.next+4) (.cells [ve,vs,.nils,.map (h.next+3)] true)).get (h.next+3)=some (.map (smp [])):=by rw [AHeap.get_set_ne _ _ (by omega),g9.same _ (by omega)]; exact rM8
 have rRA:(h9.set (h.next+4) (.cells [ve,vs,.nils,.map (h.next+3)] true)).get (h.next+2)=some (.cells [.nils,.nils,.nils,.nilm] true):=by rw [AHeap.get_set_ne _ _ (by omega),g9.same _ (by omega)]; exact rR8
 have xA:h.next+5 <= (h9.set (h.next+4) (.cells [ve,vs,.nils,.map (h.next+3)] true)).next:=by rw [AHeap.next_set]; omega
 have lvA:loadV none (.ptr (h.next+4) 0) (h9.set (h.next+4) (.cells [ve,vs,.nils,.map (h.next+3)] true))=some ve:=loadV_get rCA rfl
 simp (disch:=omega) only [RSf.down,f9,e9,lvA,pE.pms.len]
 generalize h9.set (h.next+4) (.cells [ve,vs,.nils,.map (h.next+3)] true)=hA at c9 pE pS gA rCA rMA rRA xA lvA ⊢
 have hov:∀ j,oid ve=some j->h.next+5 <= j:=fun j hj=>by have:=fr7 j hj; omega
 have hos:∀ j,oid vs=some j->h.next+5 <= j:=fun j hj=>by have:=fr9 j hj; omega
 have hovA:∀ j,oid ve=some j->j < hA.next:=fun j hj=>pE.own.lt hj
 have hosA:∀ j,oid vs=some j->j < hA.next:=fun j hj=>pS.own.lt hj
 have hve:∀ j,oid ve=some j->h.next+5 <= j/\j < hA.next:=fun j hj=>⟨hov j hj,hovA j hj⟩
 have hvs:∀ j,oid vs=some j->h.next+5 <= j/\j < hA.next:=fun j hj=>⟨hos j hj,hosA j hj⟩
 have hln:∀ {h':AHeap},lenV 1 ve h'=some (.int .i64 (l.length:Int)):=fun {h'}=>pE.pms.len
 have hlk:(elsOf l K).length=K.length:=by unfold elsOf; rw [List.length_map]
 have hls:∀ {h':AHeap},lenV 1 vs h'=some (.int .i64 (K.length:Int)):=fun {h'}=>by rw [pS.pms.len,hlk]
 have hKl:K.length <= 120:=by
  have:=nodup_le hK.nd (l':=List.range l.length) (fun x hx=>List.mem_range.2 (hK.lt x hx))
  rw [List.length_range] at this; omega
 have S0:CsS h hA.next hA ve vs .nils ce cs [] l (elsOf l K) (elsOf l (fsT l.length (op l) K 0)) []:=⟨gA,Nat.le_refl _,rCA,rMA,rRA,pE,pS,PL.nil,fun j hj=>by cases hj⟩
 refine WK_loopJ (fun k s=>k <= l.length/\∃ y0 y2 y3 y4 y5 y6 y7 vf cf E h',s=⟨[y0,.ptr (h.next+4) 0,y2,y3,y4,y5,y6,y7,.int .i64 (k:Int),ve,.int .i64 (l.length:Int),.ptr (h.next+2) 0],h'⟩/\CsS h hA.next h' ve vs vf ce cs cf l (elsOf l K) (elsOf l (fsT l.length (op l) K k)) E/\(∀ x,x < l.length->E.lookup (el l x)=if rep l.length (op l) K x < k then some (cix l.length (op l) K x) else none)) l.length
  ⟨Nat.zero_le _,_,_,_,_,_,_,_,_,[],[],hA,rfl,S0,fun x hx=>by rw [if_neg (Nat.not_lt_zero _)]; rfl⟩ ?_
 rintro k hk _ ⟨_,y0,y2,y3,y4,y5,y6,y7,vf,cf,E,h',rfl,S,hE⟩ next
 by_cases hkl:k < l.length
 ·have hp:=get_el hkl
  have hpv:=(hel.el hSv hkl).2
  obtain ⟨i1,a,i2,i3⟩:=S.pe.pms.get hp
  obtain ⟨hk2,fk,gk⟩:=ckey_spec hNo i3 hpv hn
  have S2:=S.step xA gk
  have m1:loadV none (.ptr (h.next+4) 3) h'=some (.map (h.next+3)):=loadV_get S.rc rfl
  have m2:loadV none (.ptr (h.next+4) 3) hk2=some (.map (h.next+3)):=loadV_get S2.rc rfl
  have hr:=rep_spec hT hK hkl
  have hrk:rep l.length (op l) K k <= k:=hr.2.2 k hkl ⟨0,hK.one,hT.l1 k hkl⟩
  have hrange:(List.range l.length)[k]?=some k:=List.getElem?_range hkl
  have hfs:=filt_succ (f:=fun x=>rep l.length (op l) K x == x) hrange
  by_cases hrl:rep l.length (op l) K k < k
  ·have hlo:E.lookup (el l k)=some (cix l.length (op l) K k):=by rw [hE k hkl,if_pos hrl]
   have lk:∀ tm:List AV,nth tm 0 = .map (h.next+3)->nth tm 2 = .str (el l k)->evalQ (.lookup (.one 2) (.int .i64 0) true (.tmp 0) (.tmp 2)) tm hk2=some (.tup [.int .i64 (cix l.length (op l) K k:Int),.bool true]):=fun tm e1 e2=>lookup_ok S2.rm (by rw [ev_tmp]; exact e1) (by rw [ev_tmp]; exact e2) hlo
   simp (disch:=omega) only [RSf.down,lssT,i1,i2,m1,WDV_succ,WDV_zero,fk,WDE_some,checks,lower,recheck,AOp.cls,AV.beq_refl,cond_true,true_and,m2,WDs_lookup]
   rw [lk _ rfl rfl]
   simp (disch:=omega) only [RSf.down,WX_block_ne,add1N]
   have hb:(rep l.length (op l) K k == k)=false:=beq_eq_false_iff_ne.2 (by omega)
   rw [hb,if_neg (by decide),List.append_nil] at hfs
   refine next hkl _ ⟨by omega,_,_,_,_,_,_,_,vf,cf,E,hk2,rfl,by show CsS _ _ _ _ _ _ _ _ _ _ _ (elsOf l (((List.range l.length).take (k+1)).filter _)) _; rw [hfs]; exact S2,fun x hx=>?_⟩
   rw [hE x hx]
   by_cases h1:rep l.length (op l) K x < k
   ·rw [if_pos h1,if_pos (by omega)]
   ·rw [if_neg h1,if_neg]
    intro h2
    have h3:rep l.length (op l) K x=k:=by omega
    have h4:=rep_rep hT hK hx
    rw [h3] at h4; omega
  ·have hre:rep l.length (op l) K k=k:=by omega
   have hlo:E.lookup (el l k)=none:=by rw [hE k hkl,if_neg hrl]
   have lk:∀ tm:List AV,nth tm 0 = .map (h.next+3)->nth tm 2 = .str (el l k)->evalQ (.lookup (.one 2) (.int .i64 0) true (.tmp 0) (.tmp 2)) tm hk2=some (.tup [.int .i64 0,.bool false]):=fun tm e1 e2=>lookup_no S2.rm (by rw [ev_tmp]; exact e1) (by rw [ev_tmp]; exact e2) hlo
   have lv2:loadV none (.ptr (h.next+4) 1) hk2=some vs:=loadV_get S2.rc rfl
   have hb:(rep l.length (op l) K k == k)=true:=beq_iff_eq.2 hre
   have hfl:(elsOf l (fsT l.length (op l) K k)).length=(fsT l.length (op l) K k).length:=by unfold elsOf; rw [List.length_map]
   have hfn:(fsT l.length (op l) K k).length <= 120:=by
    have h1:=List.length_filter_le (fun x=>rep l.length (op l) K x == x) ((List.range l.length).take k)
    have h2:((List.range l.length).take k).length <= l.length:=by rw [List.length_take,List.length_range]; omega
    unfold fsT; omega
   have hck:cix l.length (op l) K k=(fsT l.length (op l) K k).length:=cix_fst hT hK (filt_at (f:=fun x=>rep l.length (op l) K x == x) hrange hb)
   simp (disch:=omega) only [RSf.down,lssT,i1,i2,m1,WDV_succ,WDV_zero,fk,WDE_some,checks,lower,recheck,AOp.cls,AV.beq_refl,cond_true,true_and,m2,WDs_lookup]
   rw [lk _ rfl rfl]
   simp (disch:=omega) only [RSf.down,lv2,hls]
   refine WK_loopJ (fun j s=>j <= K.length/\∃ y2 y3 y4 E' h'',s=⟨[.int .i64 (j:Int),.ptr (h.next+4) 0,y2,y3,y4,a,vs,.int .i64 (K.length:Int),.int .i64 (k:Int),ve,.int .i64 (l.length:Int),.ptr (h.next+2) 0],h''⟩/\CsS h hA.next h'' ve vs vf ce cs cf l (elsOf l K) (elsOf l (fsT l.length (op l) K k)) E'/\PmAt h'' a (el l k)/\(∀ x,x < l.length->E'.lookup (el l x)=if rep l.length (op l) K x < k then some (cix l.length (op l) K x) else if x∈(K.take j).map (fun y=>op l y k) then some (fsT l.length (op l) K k).length else none)) K.length
    ⟨Nat.zero_le _,_,_,_,E,hk2,rfl,S2,i3.gro gk,fun x hx=>by rw [hE x hx,List.take_zero,List.map_nil,if_neg (List.not_mem_nil (a:=x))]⟩ ?_
   rintro j hj _ ⟨_,z2,z3,z4,E',h'',rfl,S',pa,hE'⟩ next2
   by_cases hjl:j < K.length
   ·obtain ⟨y,hy⟩:=get_some hjl
    have hyK:=List.mem_of_getElem? hy
    have hyN:=hK.lt y hyK
    have hyv:=(hel.el hSv hyN).2
    obtain ⟨j1,b,j2,j3⟩:=S'.ps.pms.get (show (elsOf l K)[j]?=some (el l y) by unfold elsOf; rw [List.getElem?_map,hy]; rfl)
    obtain ⟨v3,h3,f3,n3⟩:=cmul_spec hNo j3 pa hyv hpv (by omega)
    have hop:=hel.op hSv hyN hkl
    obtain ⟨h4,f4,g4⟩:=ckey_spec hNo n3.at_ (hyv.mul hpv) hn
    have S3:=S'.step xA n3.gro
    have S4:=S3.step xA g4
    have u1:loadV none (.ptr (h.next+4) 3) h''=some (.map (h.next+3)):=loadV_get S'.rc rfl
    have u2:loadV none (.ptr (h.next+4) 3) h3=some (.map (h.next+3)):=loadV_get S3.rc rfl
    have u3:loadV none (.ptr (h.next+4) 3) h4=some (.map (h.next+3)):=loadV_get S4.rc rfl
    have w1:loadV none (.ptr (h.next+4) 2) h''=some vf:=loadV_get S'.rc rfl
    have w2:loadV none (.ptr (h.next+4) 2) h3=some vf:=loadV_get S3.rc rfl
    have w3:loadV none (.ptr (h.next+4) 2) h4=some vf:=loadV_get S4.rc rfl
    have lf:∀ {h':AHeap},lenV 1 vf h'=some (.int .i64 ((fsT l.length (op l) K k).length:Int)):=fun {h'}=>by rw [S.pf.pms.len,hfl]
    rw [<- hop.2] at f4
    have hrx:rep l.length (op l) K (op l y k)=k:=by rw [rep_eq hT hK hkl hyK]; exact hre
    have hnm:op l y k ∉ (K.take j).map (fun y=>op l y k):=fun hh=>by
     obtain ⟨y',hy',e⟩:=List.mem_map.1 hh
     have e2:=hT.cancel_r (hK.lt y' (List.mem_of_mem_take hy')) hyN hkl e
     subst e2
     obtain ⟨i,hi⟩:=List.mem_iff_getElem?.1 hy'
     rw [List.getElem?_take] at hi
     split at hi
     ·have:=(List.getElem?_inj (List.getElem?_eq_some_iff.1 hi).1 hK.nd).1 (hi.trans hy.symm)
      omega
     ·cases hi
    have hlq:E'.lookup (el l (op l y k))=none:=by rw [hE' _ hop.1,if_neg (by omega),if_neg hnm]
    have em:∀ tm:List AV,nth tm 3 = .map (h.next+3)->nth tm 2 = .str (el l (op l y k))->nth tm 4 = .int .i64 ((fsT l.length (op l) K k).length:Int)->evalE (.mupd (.one 2) (.tmp 3) (.tmp 2) (.tmp 4)) (lim otab.get I) tm h4=some (aundef,h4.set (h.next+3) (.map (smp (E' ++ [(el l (op l y k),(fsT l.length (op l) K k).length)])))):=fun tm e1 e2 e3=>mupd_new S4.rm (by rw [ev_tmp]; exact e1) (by rw [ev_tmp]; exact e2) (by rw [ev_tmp]; exact e3) hlq
    simp (disch:=omega) only [RSf.down,lssT,j1,j2,u1,w1,lf,WDV_succ,WDV_zero,f3,WDE_some,checks,lower,recheck,AOp.cls,AV.beq_refl,cond_true,true_and,u2,w2,f4,u3,w3,WDs_mupd]
    rw [em _ rfl rfl rfl]
    simp (disch:=omega) only [RSf.down,WDE_some,checks,add1N]
    have S5:=S4.put (E':=E' ++ [(el l (op l y k),(fsT l.length (op l) K k).length)]) xA hve hvs
    have cm:Chg (fun j=>j=h.next+3) h4 (h4.set (h.next+3) (.map (smp (E' ++ [(el l (op l y k),(fsT l.length (op l) K k).length)])))):=Chg.set (F:=fun j=>j=h.next+3) h4 rfl _
    refine next2 hjl _ ⟨by omega,_,_,_,_,_,rfl,S5,((pa.gro n3.gro).gro g4).stayG cm (soft_map S4.rm),fun x hx=>?_⟩
    rw [lookup_snoc,hE' x hx]
    have e4:(K.take (j+1)).map (fun y=>op l y k)=(K.take j).map (fun y=>op l y k) ++ [op l y k]:=by rw [List.take_add_one,hy,List.map_append]; rfl
    by_cases h1:rep l.length (op l) K x < k
    ·rw [if_pos h1]; exact (if_pos h1).symm
    ·rw [if_neg h1,if_neg h1]
     by_cases h2:x∈(K.take j).map (fun y=>op l y k)
     ·rw [if_pos h2,e4,if_pos (List.mem_append_left _ h2)]
     ·rw [if_neg h2,e4]
      show (if el l x=el l (op l y k) then some _ else none)=_
      by_cases h3:x=op l y k
      ·rw [if_pos (by rw [h3]),if_pos (List.mem_append_right _ (List.mem_singleton.2 h3))]
      ·rw [if_neg (fun e=>h3 (hel.inj hx hop.1 e)),if_neg fun hh=>by
        rcases List.mem_append.1 hh with hh | hh
        ·exact h2 hh
        ·exact h3 (List.mem_singleton.1 hh)]
   ·obtain rfl:j=K.length:=by omega
    obtain ⟨b',h2',e1,e2,e3,S6⟩:=S'.app xA hve hvs pa (by omega)
    have w1:loadV none (.ptr (h.next+4) 2) h''=some vf:=loadV_get S'.rc rfl
    simp (disch:=omega) only [RSf.down,lssF,w1,e1,e2,e3,add1N]
    rw [hb,if_pos rfl] at hfs
    have hF:elsOf l (fsT l.length (op l) K k) ++ [el l k]=elsOf l (fsT l.length (op l) K (k+1)):=by
     show _=elsOf l (((List.range l.length).take (k+1)).filter _)
     rw [hfs]; unfold elsOf; rw [List.map_append]; rfl
    rw [hF] at S6
    refine next hkl _ ⟨by omega,_,_,_,_,_,_,_,b',_,E',_,rfl,S6,fun x hx=>?_⟩
    rw [hE' x hx,List.take_length]
    by_cases h1:rep l.length (op l) K x < k
    ·rw [if_pos h1,if_pos (by omega)]
    ·rw [if_neg h1]
     by_cases h2:x∈K.map (fun y=>op l y k)
     ·obtain ⟨y,hy,e⟩:=List.mem_map.1 h2
      have h3:rep l.length (op l) K x=k:=by rw [<- e,rep_eq hT hK hkl hy]; exact hre
      have e5:=(cix_iff hT hK hkl hx).2 ⟨y,hy,e⟩
      rw [if_pos h2,if_pos (by omega),<- e5,hck]
     ·rw [if_neg h2,if_neg]
      intro h3
      have h4:rep l.length (op l) K k=rep l.length (op l) K x:=by rw [hre]; omega
      obtain ⟨y,hy,e⟩:=(rep_iff hT hK hkl hx).1 h4
      exact h2 (List.mem_map.2 ⟨y,hy,e⟩)
 ·obtain rfl:k=l.length:=by omega
  have e9:stV 4 (.ptr (h.next+2) 0) (.agg [ve,vs,vf,.map (h.next+3)]) h'=some (aundef,h'.set (h.next+2) (.cells [ve,vs,vf,.map (h.next+3)] true)):=stV_four S.rr S.pe.own.at.scalar S.ps.own.at.scalar S.pf.own.at.scalar rfl
  have l9:=loadV_four S.rc
  simp (disch:=omega) only [RSf.down,lssF,l9,e9]
  have ch:Chg (fun j=>j=h.next+2) h' (h'.set (h.next+2) (.cells [ve,vs,vf,.map (h.next+3)] true)):=Chg.set (F:=fun j=>j=h.next+2) h' rfl _
  have sf:=soft_cells S.rr (sls_all4)
  have le1:=S.le
  refine ⟨(fun i hi=>by cases hi),.agg [ve,vs,vf,.map (h.next+3)],result_cell rfl (loadV_four (AHeap.get_set_same _ _ _)),ve,vs,vf,cf,h.next+3,E,rfl,S.pe.own.at.scalar,S.ps.own.at.scalar,?_,by rw [AHeap.get_set_ne _ _ (by omega)]; exact S.rm,by rw [AHeap.next_set]; omega,S.gro.set (by omega) _,fun x hx=>?_⟩
  ·have:=S.pf.stayG ch sf (fun i hi e=>by have:=S.fr i hi; omega)
   rw [fsT_all] at this; exact this
  ·rw [hE x hx,if_pos (rep_spec hT hK hx).1]
end
end Go.AM
namespace Go.AM
open Go Go.GT
section
variable {I:Oracle} (hNo:NoI I) {h:AHeap}
include hNo
theorem two_spec {va vb:AV} {la lb:List (List Int)} (ha:LsAt h va la) (hb:LsAt h vb lb) {d:Int} (ca:groupErr d la=0) (cb:groupErr d lb=0):∃ h',lim otab.get I (.fn 176) [.agg [.int .i64 d,va],.agg [.int .i64 d,vb]] h=some (.int .i64 0,h')/\Gro h h':=by
 have g2:Gro h ((h.push (.cells [.int .i64 d,va] true)).push (.cells [.int .i64 d,vb] true)):=(Gro.push h _).trans (Gro.push _ _)
 have r0:((h.push (.cells [.int .i64 d,va] true)).push (.cells [.int .i64 d,vb] true)).get h.next=some (.cells [.int .i64 d,va] true):=by
  rw [AHeap.get_push_lt _ _ (show h.next < h.next+1 by omega),AHeap.get_push_same]
 have r1:((h.push (.cells [.int .i64 d,va] true)).push (.cells [.int .i64 d,vb] true)).get (h.next+1)=some (.cells [.int .i64 d,vb] true):=AHeap.get_push_same (h.push _) _
 have x2:((h.push (.cells [.int .i64 d,va] true)).push (.cells [.int .i64 d,vb] true)).next=h.next+2:=rfl
 refine (lim_walk_ex (T:=otab.get) (I:=I) (f:=176) (fn:=of176) rfl (a:=[.agg [.int .i64 d,va],.agg [.int .i64 d,vb]]) (h:=h) (P:=fun a h'=>a = .int .i64 0/\Gro h h') (hNo.at _ _ (by decide) (by decide) (by decide)) ?_) |> fun ⟨a,h',e,q1,q2⟩=>⟨h',by rw [e,q1],q2⟩
 show WK _ _ [] ⟨[.agg [.int .i64 d,va],.agg [.int .i64 d,vb],aundef,aundef],h⟩ _
 dsimp only [of176,Z.t,Z.f,Z.i,Z.q,Z.m,Z.l,Z.b,Z.c,Z.w]
 simp (disch:=omega) only [RSf.down,AHeap.next_push]
 generalize ((h.push (.cells [.int .i64 d,va] true)).push (.cells [.int .i64 d,vb] true))=h2 at g2 r0 r1 x2 ⊢
 have b0:loadV (some 2) (.ptr h.next 0) h2=some (.agg [.int .i64 d,va]):=loadV_two r0
 obtain ⟨h3,f3,g3⟩:=gcheck hNo (ha.gro g2) d
 rw [ca] at f3
 have r13:h3.get (h.next+1)=some (.cells [.int .i64 d,vb] true):=by rw [g3.same _ (by omega)]; exact r1
 have b1:loadV (some 2) (.ptr (h.next+1) 0) h3=some (.agg [.int .i64 d,vb]):=loadV_two r13
 obtain ⟨h4,f4,g4⟩:=gcheck hNo (hb.gro (g2.trans g3)) d
 rw [cb] at f4
 have c0:loadV none (.ptr h.next 0) h4=some (.int .i64 d):=loadV_get (by rw [(g3.trans g4).same _ (by omega)]; exact r0) rfl
 have c1:loadV none (.ptr (h.next+1) 0) h4=some (.int .i64 d):=loadV_get (by rw [g4.same _ (by have:=g3.le; omega)]; exact r13) rfl
 have e0:bin .eql .no (.int .i64 0) (.int .i64 0)=some (.bool true):=rfl
 have en:bin .neq .no (.int .i64 d) (.int .i64 d)=some (.bool false):=neqF rfl
 simp (disch:=omega) only [RSf.down,b0,f3,e0,b1,f4,c0,c1,en]
 exact ⟨(fun i hi=>by cases hi),_,rfl,rfl,g2.trans (g3.trans g4)⟩
theorem sub1_spec {n : Nat} {G0 A : List Pm} {lab : Nat->Nat} {ic : Nat} {ids : Nat->Nat} {c : List Lv} (C : Chain n G0 A lab h ic ids c) (hn : n <= 20) {ib : Nat} (hb : loadV none (.ptr ib 0) h=some (.ptr ic 0)) {v : AV} {p : Pm} (hv : PmAt h v p) (hp : PV n p) (hG : Gen n A p) :
  ∃ h',lim otab.get I (.fn 223) [v,.ptr ib 0] h=some (.bool false,h')/\Gro h h':=by
 obtain ⟨b,h3,f3,g3,hi⟩:=ccontains_spec hNo C hn hv hp
 obtain rfl:=hi.2 hG
 refine (lim_walk_ex (T:=otab.get) (I:=I) (f:=223) (fn:=of223) rfl (a:=[v,.ptr ib 0]) (h:=h) (P:=fun a h'=>a = .bool false/\Gro h h') (hNo.at _ _ (by decide) (by decide) (by decide)) ?_) |> fun ⟨a,h',e,q1,q2⟩=>⟨h',by rw [e,q1],q2⟩
 show WK _ _ [] ⟨[v,.ptr ib 0,aundef],h⟩ _
 dsimp only [of223,Z.t,Z.f,Z.i,Z.q,Z.m,Z.l,Z.b,Z.c,Z.w]
 simp (disch:=omega) only [RSf.down,hb,f3,not_bool,Bool.not_true]
 exact ⟨(fun i hi=>by cases hi),_,rfl,rfl,g3⟩
theorem subs_none {n : Nat} {G0 A : List Pm} {lab : Nat->Nat} {ic : Nat} {ids : Nat->Nat} {c : List Lv} (C : Chain n G0 A lab h ic ids c) (hn : n <= 20) {ib : Nat} (hib : ib < h.next) (hb : loadV none (.ptr ib 0) h=some (.ptr ic 0)) {vS : AV} {S : List Pm} (hS : PmsAt h vS S) (hp : ∀ s∈S,PV n s) (hG : ∀ s∈S,Gen n A s) (hl : S.length <= 1000000) :
  ∃ h',lim otab.get I (.fn 206) [vS,.fn (.func 223) [] [.ptr ib 0]] h=some (.bool false,h')/\Gro h h':=by
 have key:∃ h',lim otab.get I (.fn 234) [vS,.fn (.func 223) [] [.ptr ib 0]] h=some (.int .i64 (-1),h')/\Gro h h':=by
  refine (lim_walk_ex (T:=otab.get) (I:=I) (f:=234) (fn:=of234) rfl (a:=[vS,.fn (.func 223) [] [.ptr ib 0]]) (h:=h) (P:=fun v h'=>v = .int .i64 (-1)/\Gro h h') (hNo.at _ _ (by decide) (by decide) (by decide)) ?_) |> fun ⟨v,h',e,q1,q2⟩=>⟨h',by rw [e,q1],q2⟩
  show WK _ _ [] ⟨[vS,.fn (.func 223) [] [.ptr ib 0],aundef,aundef,aundef],h⟩ _
  dsimp only [of234,Z.t,Z.f,Z.i,Z.q,Z.m,Z.l,Z.b,Z.c,Z.w]
  simp (disch:=omega) only [RSe.down,hS.len]
  refine WK_loopJ (fun k s=>k <= S.length/\∃ y3 h',s=⟨[vS,.fn (.func 223) [] [.ptr ib 0],.int .i64 (k:Int),y3,.int .i64 (S.length:Int)],h'⟩/\Gro h h') S.length ⟨Nat.zero_le _,_,h,rfl,Gro.refl _⟩ ?_
  rintro k hk _ ⟨_,y3,h',rfl,g⟩ next
  by_cases hkn:k < S.length
  ·obtain ⟨p,hpk⟩:=get_some hkn
   obtain ⟨i1,a,i2,i3⟩:=(PmsAt.gro' hS g).get hpk
   have hm:=List.mem_of_getElem? hpk
   have hb':loadV none (.ptr ib 0) h'=some (.ptr ic 0):=by rw [loadV_same (F:=fun _=>False) g.chg hib (fun hf=>hf)]; exact hb
   obtain ⟨h3,f,g3⟩:=sub1_spec hNo (C.gro g) hn hb' i3 (hp p hm) (hG p hm)
   have f':lim otab.get I (.fn 223) ([] ++ [a] ++ [.ptr ib 0]) h'=some (.bool false,h3):=f
   have ec:∀ tm:List AV,nth tm 1 = .fn (.func 223) [] [.ptr ib 0]->nth tm 3=a->evalE (.call (.tmp 1) [.tmp 3]) (lim otab.get I) tm h'=some (.bool false,h3):=fun tm t1 t3=>by
    rw [evalE_callV (g:=223) (fs:=[]) (cs:=[.ptr ib 0]) (show ev tm (.tmp 1)=_ by rw [ev_tmp]; exact t1)]
    have:evs tm [.tmp 3]=[a]:=by show [ev tm (.tmp 3)]=_; rw [ev_tmp,t3]
    rw [this]; exact f'
   simp (disch:=omega) only [RSe.down,lssT,i1,i2]
   rw [ec _ rfl rfl]
   simp (disch:=omega) only [RSe.down,add1N]
   exact next hkn _ ⟨by omega,_,h3,rfl,g.trans g3⟩
  ·obtain rfl:k=S.length:=by omega
   simp (disch:=omega) only [RSe.down,lssF]
   exact ⟨(fun i hi=>by cases hi),_,rfl,rfl,g⟩
 obtain ⟨h2,f2,g2⟩:=key
 refine (lim_walk_ex (T:=otab.get) (I:=I) (f:=206) (fn:=of206) rfl (a:=[vS,.fn (.func 223) [] [.ptr ib 0]]) (h:=h) (P:=fun v h'=>v = .bool false/\Gro h h') (hNo.at _ _ (by decide) (by decide) (by decide)) ?_) |> fun ⟨v,h',e,q1,q2⟩=>⟨h',by rw [e,q1],q2⟩
 show WK _ _ [] ⟨[vS,.fn (.func 223) [] [.ptr ib 0],aundef],h⟩ _
 dsimp only [of206,Z.t,Z.f,Z.i,Z.q,Z.m,Z.l,Z.b,Z.c,Z.w]
 simp (disch:=omega) only [RSe.down,f2,geqF]
 exact ⟨(fun i hi=>by cases hi),_,rfl,rfl,g2⟩
theorem isub_spec {n : Nat} (hn : n <= 20) {va vb : AV} {A B : List Pm} (ha : PmsAt h va A) (hb : PmsAt h vb B) (la : LsAt h va (A.map zs)) (lb : LsAt h vb (B.map zs)) (hA : ∀ s∈A,PV n s) (hB : ∀ s∈B,PV n s) (hlA : A.length <= 32) (hlB : B.length <= 32) (hBd : Bnd n B 5040) (hG : ∀ s∈A,Gen n B s) :
  ∃ h',lim otab.get I (.fn 95) [.agg [.int .i64 (n:Int),va],.agg [.int .i64 (n:Int),vb]] h=some (.tup [.bool true,.int .i64 0],h')/\Gro h h':=by
 have hsub:∀ {h:AHeap},PmsAt h va A->PmsAt h vb B->∃ h',lim otab.get I (.fn 177) [.agg [.int .i64 (n:Int),va],.agg [.int .i64 (n:Int),vb]] h=some (.bool true,h')/\Gro h h':=fun {h} ha hb=>by
  have g2:Gro h ((h.push (.cells [.int .i64 (n:Int),va] true)).push (.cells [.int .i64 (n:Int),vb] true)):=(Gro.push h _).trans (Gro.push _ _)
  have r0:((h.push (.cells [.int .i64 (n:Int),va] true)).push (.cells [.int .i64 (n:Int),vb] true)).get h.next=some (.cells [.int .i64 (n:Int),va] true):=by
   rw [AHeap.get_push_lt _ _ (show h.next < h.next+1 by omega),AHeap.get_push_same]
  have b1:loadV (some 2) (.ptr (h.next+1) 0) ((h.push (.cells [.int .i64 (n:Int),va] true)).push (.cells [.int .i64 (n:Int),vb] true))=some (.agg [.int .i64 (n:Int),vb]):=loadV_two (AHeap.get_push_same (h.push _) _)
  have x2:((h.push (.cells [.int .i64 (n:Int),va] true)).push (.cells [.int .i64 (n:Int),vb] true)).next=h.next+2:=rfl
  refine (lim_walk_ex (T:=otab.get) (I:=I) (f:=177) (fn:=of177) rfl (a:=[.agg [.int .i64 (n:Int),va],.agg [.int .i64 (n:Int),vb]]) (h:=h) (P:=fun a h'=>a = .bool true/\Gro h h') (hNo.at _ _ (by decide) (by decide) (by decide)) ?_) |> fun ⟨a,h',e,q1,q2⟩=>⟨h',by rw [e,q1],q2⟩
  show WK _ _ [] ⟨[.agg [.int .i64 (n:Int),va],.agg [.int .i64 (n:Int),vb],aundef],h⟩ _
  dsimp only [of177,Z.t,Z.f,Z.i,Z.q,Z.m,Z.l,Z.b,Z.c,Z.w]
  simp (disch:=omega) only [RSf.down,AHeap.next_push]
  generalize ((h.push (.cells [.int .i64 (n:Int),va] true)).push (.cells [.int .i64 (n:Int),vb] true))=h2 at g2 r0 b1 x2 ⊢
  obtain ⟨ic,h3,lab,ids,c,f3,C,g3,hic⟩:=chain_spec hNo hn (PmsAt.gro' hb g2) hB (by omega) hBd
  have e4:stV 1 (.ptr h3.next 0) (.ptr ic 0) (h3.push (.cells [.nilp] true))=some (aundef,(h3.push (.cells [.nilp] true)).set h3.next (.cells [.ptr ic 0] true)):=stV_at (k:=0) (AHeap.get_push_same _ _) (by simp) rfl
  have g4:Gro h3 ((h3.push (.cells [.nilp] true)).set h3.next (.cells [.ptr ic 0] true)):=(Gro.push h3 _).set (Nat.le_refl _) _
  have p4:((h3.push (.cells [.nilp] true)).set h3.next (.cells [.ptr ic 0] true)).get h3.next=some (.cells [.ptr ic 0] true):=AHeap.get_set_same _ _ _
  have x4:h3.next < ((h3.push (.cells [.nilp] true)).set h3.next (.cells [.ptr ic 0] true)).next:=Nat.lt_succ_self _
  simp (disch:=omega) only [RSf.down,b1,f3,e4]
  generalize ((h3.push (.cells [.nilp] true)).set h3.next (.cells [.ptr ic 0] true))=h4 at g4 p4 x4 ⊢
  have l4:loadV none (.ptr h3.next 0) h4=some (.ptr ic 0):=loadV_get p4 rfl
  have l1:loadV none (.ptr h.next 1) h4=some va:=loadV_get (by rw [(g3.trans g4).same _ (by omega)]; exact r0) rfl
  obtain ⟨h5,f5,g5⟩:=subs_none hNo (C.gro g4) hn x4 l4 (PmsAt.gro' ha (g2.trans (g3.trans g4))) hA hG (by omega)
  simp (disch:=omega) only [RSf.down,l1,f5,not_bool,Bool.not_false]
  exact ⟨(fun i hi=>by cases hi),_,rfl,rfl,g2.trans (g3.trans (g4.trans g5))⟩
 have g2:Gro h ((h.push (.cells [.int .i64 (n:Int),va] true)).push (.cells [.int .i64 (n:Int),vb] true)):=(Gro.push h _).trans (Gro.push _ _)
 have r0:((h.push (.cells [.int .i64 (n:Int),va] true)).push (.cells [.int .i64 (n:Int),vb] true)).get h.next=some (.cells [.int .i64 (n:Int),va] true):=by
  rw [AHeap.get_push_lt _ _ (show h.next < h.next+1 by omega),AHeap.get_push_same]
 have r1:((h.push (.cells [.int .i64 (n:Int),va] true)).push (.cells [.int .i64 (n:Int),vb] true)).get (h.next+1)=some (.cells [.int .i64 (n:Int),vb] true):=AHeap.get_push_same (h.push _) _
 have x2:((h.push (.cells [.int .i64 (n:Int),va] true)).push (.cells [.int .i64 (n:Int),vb] true)).next=h.next+2:=rfl
 refine (lim_walk_ex (T:=otab.get) (I:=I) (f:=95) (fn:=of95) rfl (a:=[.agg [.int .i64 (n:Int),va],.agg [.int .i64 (n:Int),vb]]) (h:=h) (P:=fun a h'=>a = .tup [.bool true,.int .i64 0]/\Gro h h') (hNo.at _ _ (by decide) (by decide) (by decide)) ?_) |> fun ⟨a,h',e,q1,q2⟩=>⟨h',by rw [e,q1],q2⟩
 show WK _ _ [] ⟨[.agg [.int .i64 (n:Int),va],.agg [.int .i64 (n:Int),vb],aundef,aundef],h⟩ _
 dsimp only [of95,Z.t,Z.f,Z.i,Z.q,Z.m,Z.l,Z.b,Z.c,Z.w]
 simp (disch:=omega) only [RSf.down,AHeap.next_push]
 generalize ((h.push (.cells [.int .i64 (n:Int),va] true)).push (.cells [.int .i64 (n:Int),vb] true))=h2 at g2 r0 r1 x2 ⊢
 have lda:∀ {h'},Gro h2 h'->loadV (some 2) (.ptr h.next 0) h'=some (.agg [.int .i64 (n:Int),va]):=fun g=>loadV_two (by rw [g.same _ (by omega)]; exact r0)
 have ldb:∀ {h'},Gro h2 h'->loadV (some 2) (.ptr (h.next+1) 0) h'=some (.agg [.int .i64 (n:Int),vb]):=fun g=>loadV_two (by rw [g.same _ (by omega)]; exact r1)
 obtain ⟨h3,f3,g3⟩:=two_spec hNo (la.gro g2) (lb.gro g2) (err_zero hn hlA hA) (err_zero hn hlB hB)
 obtain ⟨h4,f4,g4⟩:=hsub (PmsAt.gro' ha (g2.trans g3)) (PmsAt.gro' hb (g2.trans g3))
 have a0:=lda (Gro.refl _)
 have b0:=ldb (Gro.refl _)
 have a3:=lda g3
 have b3:=ldb g3
 simp (disch:=omega) only [RSf.down,a0,b0,f3,neqF,a3,b3,f4]
 exact ⟨(fun i hi=>by cases hi),_,rfl,rfl,g2.trans (g3.trans g4)⟩
end
end Go.AM
namespace Go.AM
open Go Go.GT
section
variable {I:Oracle} (hNo:NoI I) {h:AHeap}
include hNo
theorem ccheck_spec {n : Nat} (hn : n <= 20) {va vb : AV} {A B l : List Pm} (ha : PmsAt h va A) (hb : PmsAt h vb B) (la : LsAt h va (A.map zs)) (lb : LsAt h vb (B.map zs)) (sa : va.scalar=true) (sb : vb.scalar=true) (hA : ∀ s∈A,PV n s) (hB : ∀ s∈B,PV n s) (hlA : A.length <= 32) (hlB : B.length <= 32) (hel : IsEl n B l) (hl : l.length <= 5040) (hG : ∀ s∈A,Gen n B s)
  {i1:Nat} (hi1:i1 < h.next) (r1:h.get i1=some (.cells [.int .i64 (n:Int),va] true)) :
  ∃ h',lim otab.get I (.fn 128) [.agg [.int .i64 (n:Int),vb],.slice i1 0 1 (.exact 1),.nils] h=some (.int .i64 0,h')/\Gro h h':=by
 have hBd:Bnd n B 5040:=⟨l,fun p hp=>(hel.mem p).2 hp,hl⟩
 have eA:=err_zero hn hlA hA
 have eB:=err_zero hn hlB hB
 refine (lim_walk_ex (T:=otab.get) (I:=I) (f:=128) (fn:=of128) rfl (a:=[.agg [.int .i64 (n:Int),vb],.slice i1 0 1 (.exact 1),.nils]) (h:=h) (P:=fun a h'=>a = .int .i64 0/\Gro h h') (hNo.at _ _ (by decide) (by decide) (by decide)) ?_) |> fun ⟨a,h',e,q1,q2⟩=>⟨h',by rw [e,q1],q2⟩
 show WK _ _ [] ⟨[.agg [.int .i64 (n:Int),vb],.slice i1 0 1 (.exact 1),.nils,aundef,aundef,aundef,aundef,aundef],h⟩ _
 dsimp only [of128,Z.t,Z.f,Z.i,Z.q,Z.m,Z.l,Z.b,Z.c,Z.w]
 have g1:=Gro.push h (.cells [.int .i64 (n:Int),vb] true)
 have b1:=box_all (h:=h) (c:=[.int .i64 (n:Int),vb]) (r:=true) (Gro.refl _) (n:=2) rfl
 have x1:(h.push (.cells [.int .i64 (n:Int),vb] true)).next=h.next+1:=rfl
 have r0:(h.push (.cells [.int .i64 (n:Int),vb] true)).get h.next=some (.cells [.int .i64 (n:Int),vb] true):=AHeap.get_push_same _ _
 simp (disch:=omega) only [RSf.down,b1]
 generalize h.push (.cells [.int .i64 (n:Int),vb] true)=h1 at g1 b1 x1 r0 ⊢
 have eb:∀ (tm:List AV),nth tm 0 = .agg [.int .i64 (n:Int),vb]->evalA (.bslice 1 2 [.int .i64 0,.nils] [(0,.tmp 0)]) tm h1=some (.cells [.int .i64 (n:Int),vb] true,.slice h1.next 0 1 (.exact 1)):=fun tm e=>by
  simp only [evalA,fillsS,ev_tmp,e]; rfl
 have o2:Own 2 (h1.push (.cells [.int .i64 (n:Int),vb] true)) (.slice h1.next 0 1 (.exact 1)) 1 [.int .i64 (n:Int),vb] := .inr ⟨h1.next,.exact 1,rfl,.inr rfl,rfl,Nat.lt_succ_self _,AHeap.get_push_same h1 _⟩
 have r12:(h1.push (.cells [.int .i64 (n:Int),vb] true)).get i1=some (.cells [.int .i64 (n:Int),va] true):=by rw [AHeap.get_push_lt _ _ (by omega),g1.same _ hi1]; exact r1
 have s2:SlN 2 (h1.push (.cells [.int .i64 (n:Int),vb] true)) (.slice i1 0 1 (.exact 1)) 1 [.int .i64 (n:Int),va] := .inr ⟨i1,0,.exact 1,[.int .i64 (n:Int),va],rfl,by show i1 < h1.next+1; omega,rfl,fun _=>⟨cellsOf_get r12,rfl⟩⟩
 obtain ⟨v6,h3,e3,o3,c3,j3,x3⟩:=o2.app (bytes:=32) s2 (by show (true && (va.scalar && true))=true; rw [sa]; rfl) (by decide) (by decide) (by decide)
 obtain ⟨i6,cap,rfl,hlt6,r6⟩:∃ i cap,v6 = .slice i 0 2 cap/\i < h3.next/\h3.get i=some (.cells [.int .i64 (n:Int),vb,.int .i64 (n:Int),va] true):=by
  rcases o3 with ⟨_,e,_⟩ | ⟨i,cap,e1,_,_,e4,e5⟩
  ·cases e
  ·exact ⟨i,cap,e1,e4,e5⟩
 have g3:Gro h h3:=(g1.trans (Gro.push _ _)).chg_new c3 fun j hj=>by cases hj; omega
 have gp:Gro h1 h3:=(Gro.push h1 _).chg_new c3 fun j hj=>by cases hj; exact Nat.le_refl _
 have r03:h3.get h.next=some (.cells [.int .i64 (n:Int),vb] true):=by rw [gp.same _ (by omega)]; exact r0
 have x03:h.next < h3.next:=by have:=gp.le; omega
 have ld6:∀ {h':AHeap} (k:Nat),k < 2->Gro h3 h'->loadV (some 2) (.ptr i6 (0+k * 2)) h'=some (.agg [.int .i64 (n:Int),if k=0 then vb else va]):=fun {h'} k hk g=>by
  show (match cellsOf h' i6 with | some c=>fit (some 2) (0+k * 2) c | none=>none)=_
  rw [cellsOf_get (by rw [g.same _ hlt6]; exact r6)]
  rcases (show k=0 \/ k=1 by omega) with rfl | rfl <;> rfl
 rw [eb _ rfl]
 simp (disch:=omega) only [RSf.down,e3,len_sl]
 refine WK_loopJ (fun k s=>k <= 2/\∃ y4 y5 h',s=⟨[.int .i64 (k:Int),.slice i1 0 1 (.exact 1),.nils,.ptr h.next 0,y4,y5,.slice i6 0 2 cap,.int .i64 ((2:Nat):Int)],h'⟩/\Gro h3 h') 2 ⟨Nat.zero_le _,_,_,h3,rfl,Gro.refl _⟩ ?_
 rintro k hk _ ⟨_,y4,y5,h',rfl,g⟩ next
 by_cases hk2:k < 2
 ·have i6k:iaddrV 2 (.slice i6 0 2 cap) (.int .i64 (k:Int))=some (.ptr i6 (0+k * 2)):=iaddrV_ok hk2
  have l6:=ld6 k hk2 g
  rw [Nat.zero_add] at l6
  have sx:(if k=0 then vb else va).scalar=true:=by split <;> assumption
  have e7:stV 2 (.ptr h'.next 0) (.agg [.int .i64 (n:Int),if k=0 then vb else va]) (h'.push (.cells [.int .i64 0,.nils] true))=some (aundef,(h'.push (.cells [.int .i64 0,.nils] true)).set h'.next (.cells [.int .i64 (n:Int),if k=0 then vb else va] true)):=stV_two (AHeap.get_push_same _ _) rfl sx
  have g7:Gro h' ((h'.push (.cells [.int .i64 0,.nils] true)).set h'.next (.cells [.int .i64 (n:Int),if k=0 then vb else va] true)):=(Gro.push h' _).set (Nat.le_refl _) _
  have l7:loadV (some 2) (.ptr h'.next 0) ((h'.push (.cells [.int .i64 0,.nils] true)).set h'.next (.cells [.int .i64 (n:Int),if k=0 then vb else va] true))=some (.agg [.int .i64 (n:Int),if k=0 then vb else va]):=loadV_two (AHeap.get_set_same _ _ _)
  generalize (h'.push (.cells [.int .i64 0,.nils] true)).set h'.next (.cells [.int .i64 (n:Int),if k=0 then vb else va] true)=h7 at e7 g7 l7
  have gg:=g3.trans (g.trans g7)
  have hc:∃ h8,lim otab.get I (.fn 116) [.agg [.int .i64 (n:Int),if k=0 then vb else va]] h7=some (.int .i64 0,h8)/\Gro h7 h8:=by
   by_cases e:k=0
   ·rw [if_pos e]
    obtain ⟨h8,f8,g8⟩:=gcheck hNo (lb.gro gg) (n:Int)
    exact ⟨h8,by rw [f8,eB],g8⟩
   ·rw [if_neg e]
    obtain ⟨h8,f8,g8⟩:=gcheck hNo (la.gro gg) (n:Int)
    exact ⟨h8,by rw [f8,eA],g8⟩
  obtain ⟨h8,f8,g8⟩:=hc
  simp (disch:=omega) only [RSf.down,lssT,i6k,l6,e7,l7,f8,neqF,add1N]
  exact next hk2 _ ⟨by omega,_,_,h8,rfl,g.trans (g7.trans g8)⟩
 obtain rfl:k=2:=by omega
 have rb:∀ {h'},Gro h3 h'->h'.get h.next=some (.cells [.int .i64 (n:Int),vb] true):=fun g=>by rw [g.same _ x03]; exact r03
 have ra:∀ {h'},Gro h3 h'->loadV (some 2) (.ptr i1 0) h'=some (.agg [.int .i64 (n:Int),va]):=fun g'=>loadV_two (by rw [(g3.trans g').same _ hi1]; exact r1)
 have i1k:iaddrV 2 (.slice i1 0 1 (.exact 1)) (.int .i64 ((0:Nat):Int))=some (.ptr i1 0):=iaddrV_ok (sz:=2) (i:=0) (by decide)
 have en:bin .neq .no (.int .i64 (n:Int)) (.int .i64 (n:Int))=some (.bool false):=neqF rfl
 simp (disch:=omega) only [RSf.down,lssF,len_sl]
 refine WK_loopJ (fun k s=>k <= 1/\∃ y4 y5 y7 h',s=⟨[.int .i64 (k:Int),.slice i1 0 1 (.exact 1),.nils,.ptr h.next 0,y4,y5,.int .i64 ((1:Nat):Int),y7],h'⟩/\Gro h3 h') 1 ⟨Nat.zero_le _,_,_,_,h',rfl,g⟩ ?_
 rintro k hk1 _ ⟨_,y4,y5,y7,h',rfl,g⟩ next
 by_cases hk2:k < 1
 ·obtain rfl:k=0:=by omega
  have l6:=ra g
  have e7:stV 2 (.ptr h'.next 0) (.agg [.int .i64 (n:Int),va]) (h'.push (.cells [.int .i64 0,.nils] true))=some (aundef,(h'.push (.cells [.int .i64 0,.nils] true)).set h'.next (.cells [.int .i64 (n:Int),va] true)):=stV_two (AHeap.get_push_same _ _) rfl sa
  have g7:Gro h' ((h'.push (.cells [.int .i64 0,.nils] true)).set h'.next (.cells [.int .i64 (n:Int),va] true)):=(Gro.push h' _).set (Nat.le_refl _) _
  have l7:loadV none (.ptr h'.next 0) ((h'.push (.cells [.int .i64 0,.nils] true)).set h'.next (.cells [.int .i64 (n:Int),va] true))=some (.int .i64 (n:Int)):=loadV_get (AHeap.get_set_same _ _ _) rfl
  have l8:loadV none (.ptr h.next 0) ((h'.push (.cells [.int .i64 0,.nils] true)).set h'.next (.cells [.int .i64 (n:Int),va] true))=some (.int .i64 (n:Int)):=loadV_get (rb (g.trans g7)) rfl
  have l0:bin .lss .no (.int .i64 ((0:Nat):Int)) (.int .i64 ((1:Nat):Int))=some (.bool true):=rfl
  have a0:bin .add .no (.int .i64 ((0:Nat):Int)) (.int .i64 1)=some (.int .i64 ((0+1:Nat):Int)):=rfl
  simp (disch:=omega) only [RSf.down,l0,i1k,l6,e7,l7,l8,en,a0]
  exact next (by decide) _ ⟨by decide,_,_,_,_,rfl,g.trans g7⟩
 obtain rfl:k=1:=by omega
 have len0:∀ h':AHeap,lenV 1 .nils h'=some (.int .i64 ((0:Nat):Int)):=fun _=>rfl
 simp (disch:=omega) only [RSf.down,lssF,len0]
 refine WK_loopJ (fun k s=>k <= 0/\∃ y4 y5,s=⟨[.int .i64 (k:Int),.slice i1 0 1 (.exact 1),.nils,.ptr h.next 0,y4,y5,.int .i64 ((1:Nat):Int),.int .i64 ((0:Nat):Int)],h'⟩) 0 ⟨Nat.zero_le _,_,_,rfl⟩ ?_
 rintro k hk0 _ ⟨_,y4,y5,rfl⟩ next
 obtain rfl:k=0:=by omega
 have lb0:loadV (some 2) (.ptr h.next 0) h'=some (.agg [.int .i64 (n:Int),vb]):=loadV_two (rb g)
 obtain ⟨ko,h8,f8,g8,_,ho⟩:=porder_spec hNo (lb.gro (g3.trans g)) (n:Int) (fun _=>by rw [Int.toNat_natCast,gS_zs]; exact hBd)
 rw [eB] at f8
 have hko:=ho eB l (by rw [Int.toNat_natCast,gS_zs]; exact hel)
 subst hko
 have gg:=g.trans g8
 simp (disch:=omega) only [RSf.down,lssF,lb0,f8,neqF,gtrF,len_sl]
 refine WK_loopJ (fun k s=>k <= 1/\∃ y2 y4 y6 y7 h',s=⟨[.int .i64 (k:Int),.slice i1 0 1 (.exact 1),y2,.ptr h.next 0,y4,.int .i64 ((1:Nat):Int),y6,y7],h'⟩/\Gro h3 h') 1 ⟨Nat.zero_le _,_,_,_,_,h8,rfl,gg⟩ ?_
 rintro k hk1 _ ⟨_,y2,y4,y6,y7,h',rfl,g⟩ next
 by_cases hk2:k < 1
 ·obtain rfl:k=0:=by omega
  have l6:=ra g
  have e7:stV 2 (.ptr h'.next 0) (.agg [.int .i64 (n:Int),va]) (h'.push (.cells [.int .i64 0,.nils] true))=some (aundef,(h'.push (.cells [.int .i64 0,.nils] true)).set h'.next (.cells [.int .i64 (n:Int),va] true)):=stV_two (AHeap.get_push_same _ _) rfl sa
  have g7:Gro h' ((h'.push (.cells [.int .i64 0,.nils] true)).set h'.next (.cells [.int .i64 (n:Int),va] true)):=(Gro.push h' _).set (Nat.le_refl _) _
  have l7:loadV (some 2) (.ptr h'.next 0) ((h'.push (.cells [.int .i64 0,.nils] true)).set h'.next (.cells [.int .i64 (n:Int),va] true))=some (.agg [.int .i64 (n:Int),va]):=loadV_two (AHeap.get_set_same _ _ _)
  have l8:loadV (some 2) (.ptr h.next 0) ((h'.push (.cells [.int .i64 0,.nils] true)).set h'.next (.cells [.int .i64 (n:Int),va] true))=some (.agg [.int .i64 (n:Int),vb]):=loadV_two (rb (g.trans g7))
  have l0:bin .lss .no (.int .i64 ((0:Nat):Int)) (.int .i64 ((1:Nat):Int))=some (.bool true):=rfl
  have a0:bin .add .no (.int .i64 ((0:Nat):Int)) (.int .i64 1)=some (.int .i64 ((0+1:Nat):Int)):=rfl
  have g7':=g3.trans (g.trans g7)
  obtain ⟨h9,f9,g9⟩:=isub_spec hNo hn (PmsAt.gro' ha g7') (PmsAt.gro' hb g7') (la.gro g7') (lb.gro g7') hA hB hlA hlB hBd hG
  simp (disch:=omega) only [RSf.down,l0,i1k,l6,e7,l7,l8,f9,neqF,not_bool,Bool.not_true,a0]
  exact next (by decide) _ ⟨by decide,_,_,_,_,h9,rfl,(g.trans g7).trans g9⟩
 obtain rfl:k=1:=by omega
 simp (disch:=omega) only [RSf.down,lssF]
 exact ⟨(fun i hi=>by cases hi),_,rfl,rfl,g3.trans g⟩
end
end Go.AM
namespace Go.AM
open Go Go.GT
section
variable {I:Oracle} (hS:Srt2 I) {h:AHeap}
include hS
theorem gAll_ok {vg : AV} {ls : List (List Int)} (hg : LsAt h vg ls) {d : Int} {l : List Pm} (o : OkG d ls l) :
  ∃ v c L h',lim otab.get I (.fn 23) [.agg [.int .i64 d,vg]] h=some (.tup [v,.int .i64 0],h')/\PL h' v c L/\SubsL l.length (op l) L/\Gro h h'/\∀ j,oid v=some j->h.next <= j:=by
 have hNo:=hS.srt.no
 have g1:=Gro.push h (.cells [.int .i64 d,vg] true)
 have b1:=box_all (h:=h) (c:=[.int .i64 d,vg]) (r:=true) (Gro.refl _) (n:=2) rfl
 have hl:=o.few
 obtain ⟨il,it,v,L,h2,f2,A2,T2,s2,g2⟩:=all_ok hS (hg.gro g1) o
 have hL:=subs_few o.tg hl s2.nd fun H hH=>(s2.mem H).1 hH
 refine (lim_walk_ex (T:=otab.get) (I:=I) (f:=23) (fn:=of23) rfl (a:=[.agg [.int .i64 d,vg]]) (h:=h) (P:=fun w h'=>∃ v c L,w = .tup [v,.int .i64 0]/\PL h' v c L/\SubsL l.length (op l) L/\Gro h h'/\∀ j,oid v=some j->h.next <= j) (hNo.at _ _ (by decide) (by decide) (by decide)) ?_) |> fun ⟨w,h',e,v,c,L,q1,q2⟩=>⟨v,c,L,h',by rw [e,q1],q2⟩
 show WK _ _ [] ⟨[.agg [.int .i64 d,vg],aundef,aundef,aundef,aundef,aundef],h⟩ _
 dsimp only [of23,Z.t,Z.f,Z.i,Z.q,Z.m,Z.l,Z.b,Z.c,Z.w]
 simp (disch:=omega) only [RSe.down,b1,f2,neqF,A2.subs,A2.s.len]
 have g12:=g1.trans g2
 refine WK_loopJ (fun k s=>k <= L.length/\∃ y1 v2 c2 y3 h',s=⟨[.int .i64 (k:Int),y1,v2,y3,v,.int .i64 (L.length:Int)],h'⟩/\Gro h2 h'/\PL h' v2 c2 (L.take k)/\∀ j,oid v2=some j->h2.next <= j) L.length
  ⟨Nat.zero_le _,_,_,[],_,h2,rfl,Gro.refl _,PL.nil,fun j hj=>by cases hj⟩ ?_
 rintro k hk _ ⟨_,y1,v2,c2,y3,h',rfl,g3,p2,fr⟩ next
 by_cases hkl:k < L.length
 ·have hsub:=s2.sub hkl
  have hlt:∀ x∈lk L k,x < 64:=fun x hx=>by have:=hsub.lt x hx; omega
  have hlen:(lk L k).length <= 24:=by
   have:=nodup_le hsub.nd (l':=List.range l.length) fun x hx=>List.mem_range.2 (hsub.lt x hx)
   rw [List.length_range] at this; omega
  have i1:=(A2.s.gro g3).iaddr (q := .i64) hkl
  have i2:=(A2.s.gro g3).load (get_lk hkl)
  have r0:=AHeap.get_push_same h' (.cells [.int .u64 0,.int .u64 0] true)
  have e2:stV 2 (.ptr h'.next 0) (ws (lk L k)) (h'.push (.cells [.int .u64 0,.int .u64 0] true))=some (aundef,(h'.push (.cells [.int .u64 0,.int .u64 0] true)).set h'.next (.cells [.int .u64 (wd (lk L k):Int),.int .u64 ((0:Nat):Int)] true)):=stV_two r0 rfl rfl
  have g4:Gro h' ((h'.push (.cells [.int .u64 0,.int .u64 0] true)).set h'.next (.cells [.int .u64 (wd (lk L k):Int),.int .u64 ((0:Nat):Int)] true)):=(Gro.push h' _).set (Nat.le_refl _) _
  have l2:loadV (some 2) (.ptr h'.next 0) ((h'.push (.cells [.int .u64 0,.int .u64 0] true)).set h'.next (.cells [.int .u64 (wd (lk L k):Int),.int .u64 ((0:Nat):Int)] true))=some (ws (lk L k)):=loadV_two (AHeap.get_set_same _ _ _)
  generalize ((h'.push (.cells [.int .u64 0,.int .u64 0] true)).set h'.next (.cells [.int .u64 (wd (lk L k):Int),.int .u64 ((0:Nat):Int)] true))=h4 at e2 g4 l2
  obtain ⟨v5,h5,f5,o5,g5,_⟩:=ws_list hNo (h:=h4) hsub.asc hlt
  have p5:PmAt h5 v5 (lk L k):=o5.at
  have gg:=(g3.trans g4).trans g5
  obtain ⟨e6,b6,h6,e7,p7,c7,j7,x7⟩:=(p2.gro (g4.trans g5)).app p5 (by rw [List.length_take]; omega)
  simp (disch:=omega) only [RSe.down,lssT,i1,i2,e2,l2,f5,e6,e7,add1N]
  refine next hkl _ ⟨by omega,_,_,c2 ++ [v5],_,h6,rfl,gg.chg_new c7 fun j hj=>fr j hj,?_,fun j hj=>?_⟩
  ·rw [take_succ_get (get_lk hkl)]; exact p7
  ·rw [j7] at hj; cases hj; have:=gg.le; omega
 ·obtain rfl:k=L.length:=by omega
  simp (disch:=omega) only [RSe.down,lssF]
  rw [List.take_length] at p2
  refine ⟨(fun i hi=>by cases hi),_,rfl,v2,c2,L,rfl,p2,s2,g12.trans g3,fun j hj=>?_⟩
  have:=fr j hj; have:=g12.le; omega
end
section
variable {I:Oracle} (hNo:NoI I) {h:AHeap} {il it N:Nat} {m:Nat->Nat->Nat} {v:AV} {L:List (List Nat)}
include hNo
theorem covers_spec (A : LatAt h il it v L) (_hT : TG N m) (hL : SubsL N m L) (hN : N <= 64) (hl : L.length <= 512) {i k : Nat} (hi : i < L.length) (hk : k < L.length) :
  ∃ h',lim otab.get I (.fn 106) [.ptr il 0,.int .i64 (i:Int),.int .i64 (k:Int)] h=some (.bool (covB L i k),h')/\Gro h h':=by
 refine (lim_walk_ex (T:=otab.get) (I:=I) (f:=106) (fn:=of106) rfl (a:=[.ptr il 0,.int .i64 (i:Int),.int .i64 (k:Int)]) (h:=h) (P:=fun v' h'=>v' = .bool (covB L i k)/\Gro h h') (hNo.at _ _ (by decide) (by decide) (by decide)) ?_) |> fun ⟨v,h',e,q1,q2⟩=>⟨h',by rw [e,q1],q2⟩
 show WK _ _ [] ⟨[.ptr il 0,.int .i64 (i:Int),.int .i64 (k:Int),aundef,aundef,aundef,aundef,aundef],h⟩ _
 dsimp only [of106,Z.t,Z.f,Z.i,Z.q,Z.m,Z.l,Z.b,Z.c,Z.w]
 have lt64:∀ {j},j < L.length->∀ x∈lk L j,x < 64:=fun hj x hx=>by have:=(hL.sub hj).lt x hx; omega
 by_cases eik:i=k
 ·simp (disch:=omega) only [RSf.down,eqlT]
  refine ⟨(fun i hi=>by cases hi),_,rfl,?_,Gro.refl _⟩
  unfold covB
  rw [decide_eq_false (show ¬ i < k by omega)]; rfl
 ·have i1:=A.s.iaddr (q := .i64) hi
  have i2:=A.s.load (get_lk hi)
  have k1:=A.s.iaddr (q := .i64) hk
  have k2:=A.s.load (get_lk hk)
  obtain ⟨h2,f2,g2⟩:=ws_in hNo (h:=h) (lt64 hi) (lt64 hk)
  cases es:subB (lk L i) (lk L k) with
  | false =>
   rw [es] at f2
   simp (disch:=omega) only [RSf.down,eqlF,A.subs,i1,i2,k1,k2,f2,not_bool,Bool.not_false]
   refine ⟨(fun i hi=>by cases hi),_,rfl,?_,g2⟩
   unfold covB
   rw [es,Bool.false_and,Bool.and_false]; rfl
  | true =>
   have hik:i < k:=by
    refine Nat.lt_of_not_le fun hge=>?_
    have:=hL.later (show k < i by omega) hi
    rw [es] at this; cases this
   rw [es] at f2
   simp (disch:=omega) only [RSf.down,eqlF,A.subs,i1,i2,k1,k2,f2,not_bool,Bool.not_true,add1N]
   refine WK_loopM (fun z s=>∃ y3 y5 y6 y7 j h',s=⟨[.ptr il 0,.int .i64 (i:Int),.int .i64 (k:Int),y3,.int .i64 ((j:Nat):Int),y5,y6,y7],h'⟩/\Gro h h'/\i < j/\j <= k/\z=k - j/\∀ j',i < j'->j' < j->(subB (lk L i) (lk L j') && subB (lk L j') (lk L k))=false) ?_ _ _
    ⟨_,_,_,_,i+1,h2,rfl,g2,by omega,by omega,rfl,fun j' h1 h2=>by omega⟩
   rintro z _ ⟨y3,y5,y6,y7,j,h',rfl,g,j1,j2,rfl,hno⟩ next
   by_cases hjk:j < k
   ·have A':=A.gro g
    have hj:j < L.length:=by omega
    have a1:=A'.s.iaddr (q := .i64) hi
    have a2:=A'.s.load (get_lk hi)
    have b1:=A'.s.iaddr (q := .i64) hj
    have b2:=A'.s.load (get_lk hj)
    obtain ⟨h3,f3,g3⟩:=ws_in hNo (h:=h') (lt64 hi) (lt64 hj)
    cases e1:subB (lk L i) (lk L j) with
    | false =>
     rw [e1] at f3
     simp (disch:=omega) only [RSf.down,lssT,A'.subs,a1,a2,b1,b2,f3,add1N]
     exact next (k - (j+1)) _ (by omega) ⟨_,_,_,_,j+1,h3,rfl,g.trans g3,by omega,by omega,rfl,fun j' h1 h2=>by
      by_cases e:j'=j
      ·rw [e,e1]; rfl
      ·exact hno j' h1 (by omega)⟩
    | true =>
     rw [e1] at f3
     have A3:=A'.gro g3
     have c1:=A3.s.iaddr (q := .i64) hj
     have c2:=A3.s.load (get_lk hj)
     have d1:=A3.s.iaddr (q := .i64) hk
     have d2:=A3.s.load (get_lk hk)
     obtain ⟨h4,f4,g4⟩:=ws_in hNo (h:=h3) (lt64 hj) (lt64 hk)
     cases e2:subB (lk L j) (lk L k) with
     | false =>
      rw [e2] at f4
      simp (disch:=omega) only [RSf.down,lssT,A'.subs,a1,a2,b1,b2,f3,A3.subs,c1,c2,d1,d2,f4,add1N]
      exact next (k - (j+1)) _ (by omega) ⟨_,_,_,_,j+1,h4,rfl,g.trans (g3.trans g4),by omega,by omega,rfl,fun j' h1 h2=>by
       by_cases e:j'=j
       ·rw [e,e2,Bool.and_false]
       ·exact hno j' h1 (by omega)⟩
     | true =>
      rw [e2] at f4
      simp (disch:=omega) only [RSf.down,lssT,A'.subs,a1,a2,b1,b2,f3,A3.subs,c1,c2,d1,d2,f4]
      refine ⟨(fun i hi=>by cases hi),_,rfl,?_,g.trans (g3.trans g4)⟩
      have:nobB L i k=false:=by
       refine Bool.eq_false_iff.2 fun hn=>?_
       have:=List.all_eq_true.1 hn j (List.mem_range.2 hjk)
       rw [e1,e2,decide_eq_true j1] at this; cases this
      unfold covB
      rw [this,Bool.and_false,Bool.and_false]; rfl
   ·obtain rfl:j=k:=by omega
    simp (disch:=omega) only [RSf.down,lssF]
    refine ⟨(fun i hi=>by cases hi),_,rfl,?_,g⟩
    have:nobB L i j=true:=List.all_eq_true.2 fun x hx=>by
     have hx:=List.mem_range.1 hx
     by_cases hix:i < x
     ·rw [hno x hix hx,Bool.and_false]; rfl
     ·rw [decide_eq_false hix]; rfl
    unfold covB
    rw [this,es,decide_eq_true hik]; rfl
theorem maximal_spec (A : LatAt h il it v L) (hT : TG N m) (hL : SubsL N m L) (hN : N <= 64) (hl : L.length <= 512) :
  ∃ v' h',lim otab.get I (.fn 111) [.ptr il 0] h=some (v',h')/\PmAt h' v' (maxL L)/\Gro h h'/\∀ j,oid v'=some j->h.next <= j:=by
 refine (lim_walk_ex (T:=otab.get) (I:=I) (f:=111) (fn:=of111) rfl (a:=[.ptr il 0]) (h:=h) (P:=fun v' h'=>PmAt h' v' (maxL L)/\Gro h h'/\∀ j,oid v'=some j->h.next <= j) (hNo.at _ _ (by decide) (by decide) (by decide)) ?_)
 show WK _ _ [] ⟨[.ptr il 0,aundef,aundef,aundef,aundef],h⟩ _
 dsimp only [of111,Z.t,Z.f,Z.i,Z.q,Z.m,Z.l,Z.b,Z.c,Z.w]
 simp (disch:=omega) only [RSe.down,A.subs,A.s.len]
 refine WK_loopJ (fun k s=>k <= L.length/\∃ v2 y3 h',s=⟨[.ptr il 0,.int .i64 (k:Int),v2,y3,.int .i64 (L.length:Int)],h'⟩/\Gro h h'/\Own 1 h' v2 ((List.range k).filter fun i=>covB L i (L.length - 1)).length (pc ((List.range k).filter fun i=>covB L i (L.length - 1)))/\∀ j,oid v2=some j->h.next <= j) L.length
  ⟨Nat.zero_le _,_,_,h,rfl,Gro.refl _,Own.nil,fun j hj=>by cases hj⟩ ?_
 rintro k hk _ ⟨_,v2,y3,h',rfl,g1,o2,fr⟩ next
 by_cases hkl:k < L.length
 ·have A':=A.gro g1
  obtain ⟨h3,f3,g3⟩:=covers_spec hNo A' hT hL hN hl hkl (show L.length - 1 < L.length by omega)
  have hle:((List.range k).filter fun i=>covB L i (L.length - 1)).length <= k:=by have:=List.length_filter_le (fun i=>covB L i (L.length - 1)) (List.range k); rwa [List.length_range] at this
  have hr:((List.range (k+1)).filter fun i=>covB L i (L.length - 1))=((List.range k).filter fun i=>covB L i (L.length - 1)) ++ if covB L k (L.length - 1)=true then [k] else []:=by
   rw [List.range_succ,List.filter_append,List.filter_cons,List.filter_nil]
  have o3:=o2.gro g3
  cases ep:covB L k (L.length - 1) with
  | true =>
   rw [ep] at f3
   rw [if_pos ep] at hr
   obtain ⟨b',h4,e4,o4,c4,j4,x4⟩:=o3.app1 (bytes:=8) (c:=[.int .i64 (k:Int)]) rfl rfl (by decide) (by omega)
   simp (disch:=omega) only [RSe.down,lssT,A'.subs,A.s.len,sub1N,f3,e4,add1N]
   refine next hkl _ ⟨by omega,_,_,h4,rfl,(g1.trans g3).chg_new c4 fun j hj=>fr j hj,?_,fun j hj=>?_⟩
   ·rw [hr,<- pc_app,List.length_append]; exact o4
   ·rw [j4] at hj; cases hj; have:=(g1.trans g3).le; omega
  | false =>
   rw [ep] at f3
   rw [if_neg (by rw [ep]; decide),List.append_nil] at hr
   simp (disch:=omega) only [RSe.down,lssT,A'.subs,A.s.len,sub1N,f3,add1N]
   exact next hkl _ ⟨by omega,_,_,h3,rfl,g1.trans g3,by rw [hr]; exact o3,fr⟩
 ·obtain rfl:k=L.length:=by omega
  simp (disch:=omega) only [RSe.down,lssF]
  exact ⟨(fun i hi=>by cases hi),_,rfl,o2.at,g1,fr⟩
end
end Go.AM
namespace Go.AM
open Go Go.GT
theorem eqv_ws {a b:Nat}:eqv (.flat [1,1]) (sv a 0) (sv b 0)=some (decide (a=b)):=by
 have:=key_sv a b
 exact this
theorem neq_ws {H K:List Nat} (aH:H.Pairwise (· < ·)) (aK:K.Pairwise (· < ·)):bin .neq (.flat [1,1]) (ws H) (ws K)=some (.bool (!(H == K))):=by
 show (match eqv (.flat [1,1]) (sv (wd H) 0) (sv (wd K) 0) with | some b=>some (AV.bool (!b)) | none=>none)=_
 rw [eqv_ws]
 have:decide (wd H=wd K)=(H == K):=by
  rw [Bool.eq_iff_iff,decide_eq_true_eq,beq_iff_eq]
  exact ⟨wd_inj aH aK,fun e=>by rw [e]⟩
 rw [this]
theorem place_ti {n:Nat} {S l:List Pm} (hS:∀ s∈S,PV n s) (h:IsEl n S l) {i:Nat} (hi:i < l.length):place l (inv (el l i))=ti l.length (op l) i:=by
 obtain ⟨g,p⟩:=h.el hS hi
 obtain ⟨c1,c2⟩:=h.place (g.inv hS)
 have h0:el l 0=one n:=el_get (h.first hS)
 refine ti_eq (h.tg hS) hi c1 (h.inj (h.op hS hi c1).1 h.pos ?_)
 rw [(h.op hS hi c1).2,c2,h0,p.mul_inv]
theorem OkG.ti {d:Int} {ls:List (List Int)} {l:List Pm} (o:OkG d ls l) {i:Nat} (hi:i < l.length):place l (inv (GT.el l i))=GT.ti l.length (op l) i:=by
 obtain ⟨n,rfl,_,_,_,hS⟩:=group_of_ok o.ok
 exact place_ti hS o.el hi
section
variable {I:Oracle} (hNo:NoI I) {h:AHeap} {il it ib:Nat} {d:Int} {vg:AV} {ls:List (List Int)} {l:List Pm} {v:AV} {L:List (List Nat)}
include hNo
theorem normal1_spec (A : LatAt h il it v L) (T : TabAt h it d vg l) (o : OkG d ls l) (hb : loadV none (.ptr ib 0) h=some (.ptr il 0)) (hib : ib < h.next) {H : List Nat} (hH : Sub l.length (op l) H) :
  ∃ h',lim otab.get I (.fn 110) [ws H,.ptr ib 0] h=some (.bool ((List.range l.length).all fun x=>cjC l.length (op l) x H == H),h')/\Gro h h':=by
 refine (lim_walk_ex (T:=otab.get) (I:=I) (f:=110) (fn:=of110) rfl (a:=[ws H,.ptr ib 0]) (h:=h) (P:=fun v' h'=>v' = .bool ((List.range l.length).all fun x=>cjC l.length (op l) x H == H)/\Gro h h') (hNo.at _ _ (by decide) (by decide) (by decide)) ?_) |> fun ⟨v,h',e,q1,q2⟩=>⟨h',by rw [e,q1],q2⟩
 show WK _ _ [] ⟨[ws H,.ptr ib 0,aundef,aundef,aundef,aundef,aundef],h⟩ _
 dsimp only [of110,Z.t,Z.f,Z.i,Z.q,Z.m,Z.l,Z.b,Z.c,Z.w]
 have hl:=o.few
 have cH:(ws H).cells=[.int .u64 (wd H:Int),.int .u64 ((0:Nat):Int)]:=rfl
 have g1:=Gro.push h (.cells [.int .u64 (wd H:Int),.int .u64 ((0:Nat):Int)] true)
 have r0:=AHeap.get_push_same h (.cells [.int .u64 (wd H:Int),.int .u64 ((0:Nat):Int)] true)
 have x1:(h.push (.cells [.int .u64 (wd H:Int),.int .u64 ((0:Nat):Int)] true)).next=h.next+1:=rfl
 have A1:=A.gro g1
 have T1:=T.gro g1
 have hb1:∀ {h'},Gro h h'->loadV none (.ptr ib 0) h'=some (.ptr il 0):=fun g=>by rw [loadV_same (F:=fun _=>False) g.chg hib (fun hf=>hf)]; exact hb
 obtain ⟨va,a1,a2⟩:=T1.all
 simp (disch:=omega) only [RSe.down,cH,hb1 g1,A1.tab,a1,a2.len]
 generalize h.push (.cells [.int .u64 (wd H:Int),.int .u64 ((0:Nat):Int)] true)=h1 at g1 r0 x1 A1 T1 a1 ⊢
 refine WK_loopJ (fun k s=>k <= l.length/\(∃ y3 y4 y5 h',s=⟨[.int .i64 (k:Int),.ptr ib 0,.ptr h.next 0,y3,y4,y5,.int .i64 (l.length:Int)],h'⟩/\Gro h1 h')/\∀ x,x < k->cjS l.length (op l) x H=H) l.length
  ⟨Nat.zero_le _,⟨_,_,_,h1,rfl,Gro.refl _⟩,fun x hx=>absurd hx (Nat.not_lt_zero _)⟩ ?_
 rintro k hk _ ⟨_,⟨y3,y4,y5,h',rfl,g2⟩,hall⟩ next
 by_cases hkl:k < l.length
 ·have A2:=A1.gro g2
  have T2:=T1.gro g2
  have g12:=g1.trans g2
  have l0:∀ {h''},Gro h1 h''->loadV (some 2) (.ptr h.next 0) h''=some (ws H):=fun g=>loadV_two (by rw [g.same _ (by omega)]; exact r0)
  obtain ⟨vm,m1,m2⟩:=T2.mul
  obtain ⟨vi,i1,i2⟩:=T2.inv
  obtain ⟨h3,f3,g3⟩:=ws_moved hNo (h:=h') T2.lt m1 m2 i1 i2 (fun i hi=>o.ti hi) o.tg (by omega) hH.lt hkl
  have hn:=neq_ws (cjS_sub o.tg hH hkl).asc hH.asc
  have la:=l0 g2
  have lb:=l0 (g2.trans g3)
  by_cases e:cjS l.length (op l) k H=H
  ·have e':(!(cjS l.length (op l) k H == H))=false:=by rw [e]; simp
   rw [e'] at hn
   simp (disch:=omega) only [RSe.down,lssT,hb1 g12,A2.tab,la,f3,hn,WDV_succ,WDV_zero,WDE_some,checks,lower,recheck,AOp.cls,AV.beq_refl,cond_true,true_and,lb,add1N]
   exact next hkl _ ⟨by omega,⟨_,_,_,h3,rfl,g2.trans g3⟩,fun x hx=>by
    by_cases ex:x=k
    ·rw [ex]; exact e
    ·exact hall x (by omega)⟩
  ·have e':(!(cjS l.length (op l) k H == H))=true:=by simp [e]
   rw [e'] at hn
   simp (disch:=omega) only [RSe.down,lssT,hb1 g12,A2.tab,la,f3,hn,WDV_succ,WDV_zero,WDE_some,checks,lower,recheck,AOp.cls,AV.beq_refl,cond_true,true_and,lb]
   refine ⟨(fun i hi=>by cases hi),_,rfl,?_,g12.trans g3⟩
   have:((List.range l.length).all fun x=>cjC l.length (op l) x H == H)=false:=by
    refine Bool.eq_false_iff.2 fun hh=>?_
    have:=List.all_eq_true.1 hh k (List.mem_range.2 hkl)
    rw [cjC_eq o.tg hkl] at this
    exact e (by simpa using this)
   rw [this]; rfl
 ·obtain rfl:k=l.length:=by omega
  simp (disch:=omega) only [RSe.down,lssF]
  refine ⟨(fun i hi=>by cases hi),_,rfl,?_,g1.trans g2⟩
  have:((List.range l.length).all fun x=>cjC l.length (op l) x H == H)=true:=List.all_eq_true.2 fun x hx=>by
   have hx:=List.mem_range.1 hx
   rw [cjC_eq o.tg hx,hall x hx]; simp
  rw [this]; rfl
end
section
variable {I:Oracle} (hS:Srt2 I) {h:AHeap} {vg:AV} {ls:List (List Int)} (hg:LsAt h vg ls) {d:Int} {l:List Pm} (o:OkG d ls l)
include hS hg o
theorem gMax_ok:∃ v L h',lim otab.get I (.fn 40) [.agg [.int .i64 d,vg]] h=some (.tup [v,.int .i64 0],h')/\PmAt h' v (maxL L)/\SubsL l.length (op l) L/\Gro h h':=by
 have hNo:=hS.srt.no
 have g1:=Gro.push h (.cells [.int .i64 d,vg] true)
 have b1:=box_all (h:=h) (c:=[.int .i64 d,vg]) (r:=true) (Gro.refl _) (n:=2) rfl
 have hl:=o.few
 obtain ⟨il,it,v,L,h2,f2,A2,T2,s2,g2⟩:=all_ok hS (hg.gro g1) o
 have hL:=subs_few o.tg hl s2.nd fun H hH=>(s2.mem H).1 hH
 obtain ⟨v3,h3,f3,p3,g3,_⟩:=maximal_spec hNo A2 o.tg s2 (by omega) hL
 refine (lim_walk_ex (T:=otab.get) (I:=I) (f:=40) (fn:=of40) rfl (a:=[.agg [.int .i64 d,vg]]) (h:=h) (P:=fun w h'=>∃ v L,w = .tup [v,.int .i64 0]/\PmAt h' v (maxL L)/\SubsL l.length (op l) L/\Gro h h') (hNo.at _ _ (by decide) (by decide) (by decide)) ?_) |> fun ⟨w,h',e,v,L,q1,q2⟩=>⟨v,L,h',by rw [e,q1],q2⟩
 show WK _ _ [] ⟨[.agg [.int .i64 d,vg],aundef,aundef],h⟩ _
 dsimp only [of40,Z.t,Z.f,Z.i,Z.q,Z.m,Z.l,Z.b,Z.c,Z.w]
 simp (disch:=omega) only [RSe.down,b1,f2,neqF,f3]
 exact ⟨(fun i hi=>by cases hi),_,rfl,v3,L,rfl,p3,s2,g1.trans (g2.trans g3)⟩
theorem gNor_ok:∃ v L h',lim otab.get I (.fn 39) [.agg [.int .i64 d,vg]] h=some (.tup [v,.int .i64 0],h')/\PmAt h' v (norL l.length (op l) L)/\SubsL l.length (op l) L/\Gro h h':=by
 have hNo:=hS.srt.no
 have g1:=Gro.push h (.cells [.int .i64 d,vg] true)
 have b1:=box_all (h:=h) (c:=[.int .i64 d,vg]) (r:=true) (Gro.refl _) (n:=2) rfl
 have hl:=o.few
 obtain ⟨il,it,v,L,h2,f2,A2,T2,s2,g2⟩:=all_ok hS (hg.gro g1) o
 have hL:=subs_few o.tg hl s2.nd fun H hH=>(s2.mem H).1 hH
 have e3:stV 1 (.ptr h2.next 0) (.ptr il 0) (h2.push (.cells [.nilp] true))=some (aundef,(h2.push (.cells [.nilp] true)).set h2.next (.cells [.ptr il 0] true)):=stV_at (AHeap.get_push_same _ _) (show 0 < [AV.nilp].length from Nat.zero_lt_one) rfl
 have g3:Gro h2 ((h2.push (.cells [.nilp] true)).set h2.next (.cells [.ptr il 0] true)):=(Gro.push h2 _).set (Nat.le_refl _) _
 have l3:loadV none (.ptr h2.next 0) ((h2.push (.cells [.nilp] true)).set h2.next (.cells [.ptr il 0] true))=some (.ptr il 0):=loadV_get (AHeap.get_set_same _ _ _) rfl
 have x3:h2.next < ((h2.push (.cells [.nilp] true)).set h2.next (.cells [.ptr il 0] true)).next:=Nat.lt_succ_self _
 refine (lim_walk_ex (T:=otab.get) (I:=I) (f:=39) (fn:=of39) rfl (a:=[.agg [.int .i64 d,vg]]) (h:=h) (P:=fun w h'=>∃ v L,w = .tup [v,.int .i64 0]/\PmAt h' v (norL l.length (op l) L)/\SubsL l.length (op l) L/\Gro h h') (hNo.at _ _ (by decide) (by decide) (by decide)) ?_) |> fun ⟨w,h',e,v,L,q1,q2⟩=>⟨v,L,h',by rw [e,q1],q2⟩
 show WK _ _ [] ⟨[.agg [.int .i64 d,vg],aundef,aundef],h⟩ _
 dsimp only [of39,Z.t,Z.f,Z.i,Z.q,Z.m,Z.l,Z.b,Z.c,Z.w]
 simp (disch:=omega) only [RSe.down,b1,f2,e3,neqF,l3]
 generalize ((h2.push (.cells [.nilp] true)).set h2.next (.cells [.ptr il 0] true))=h3 at e3 g3 l3 x3 ⊢
 obtain ⟨v4,h4,f4,p4,g4,_⟩:=numbers_spec hNo (A2.gro g3) hL (g:=110) (cs:=[.ptr h2.next 0]) (p:=fun k=>(List.range l.length).all fun x=>cjC l.length (op l) x (lk L k) == lk L k) fun h1 k gk hk=>by
  exact normal1_spec hNo ((A2.gro g3).gro gk) ((T2.gro g3).gro gk) o (by rw [loadV_same (F:=fun _=>False) gk.chg x3 (fun hf=>hf)]; exact l3) (Nat.lt_of_lt_of_le x3 gk.le) (s2.sub hk)
 simp (disch:=omega) only [RSe.down,f4]
 exact ⟨(fun i hi=>by cases hi),_,rfl,v4,L,rfl,p4,s2,g1.trans (g2.trans (g3.trans g4))⟩
end
end Go.AM
namespace Go.AM
open Go Go.GT
def w64 (x:Int):Int:=awrap .i64 x
theorem w64_eq (x:Int):w64 x=if x % 18446744073709551616 ≥ 9223372036854775808 then x % 18446744073709551616 - 18446744073709551616 else x % 18446744073709551616:=by
 unfold w64; rw [awrap_slow]; rfl
theorem w64_congr {x y:Int} (h:x % 18446744073709551616=y % 18446744073709551616):w64 x=w64 y:=by rw [w64_eq,w64_eq,h]
theorem w64_mod (x:Int):w64 x % 18446744073709551616=x % 18446744073709551616:=by
 rw [w64_eq]; split <;> omega
section
variable {e:EqK} {x y:Int}
theorem sub_w64:bin .sub e (.int .i64 (w64 x)) (.int .i64 (w64 y))=some (.int .i64 (w64 (x - y))):=by
 show some (AV.int .i64 (w64 (w64 x - w64 y)))=_
 congr 2
 refine w64_congr ?_
 rw [Int.sub_emod,w64_mod,w64_mod,<- Int.sub_emod]
end
theorem sumIn_take {H:List Nat}:∀ {R:List (List Nat)} {M:List Int} {t:Nat} {K:List Nat} {x:Int},R[t]?=some K->M[t]?=some x->sumIn H (R.take (t+1)) (M.take (t+1))=sumIn H (R.take t) (M.take t)+if subB H K=true then x else 0
 | [],_,_,_,_,h,_=>by simp at h
 | _ :: _,[],_,_,_,_,h=>by simp at h
 | A :: R,y :: M,0,K,x,h,h2=>by
  simp at h h2; subst h; subst h2
  show (if subB H A=true then y else 0)+sumIn H (R.take 0) (M.take 0)=_
  simp [sumIn]
 | A :: R,y :: M,t+1,K,x,h,h2=>by
  have ih:=sumIn_take (H:=H) (R:=R) (M:=M) (t:=t) (K:=K) (x:=x) (by simpa using h) (by simpa using h2)
  show (if subB H A=true then y else 0)+sumIn H (R.take (t+1)) (M.take (t+1))=(if subB H A=true then y else 0)+sumIn H (R.take t) (M.take t)+_
  rw [ih]; omega
theorem moe_drop:∀ (L:List (List Nat)) (i:Nat),(moe L).drop i=moe (L.drop i)
 | _,0=>by simp
 | [],i+1=>by simp [moe]
 | H :: R,i+1=>by
  show (moe R).drop i=moe (R.drop i)
  exact moe_drop R i
def mv (L:List (List Nat)) (j:Nat):Int:=(moe L).getD j 0
theorem mv_get {L:List (List Nat)} {j:Nat} (h:j < L.length):(moe L)[j]?=some (mv L j):=by
 unfold mv List.getD; rw [List.getElem?_eq_getElem (by rw [moe_len]; exact h)]; rfl
def mpart (L:List (List Nat)) (i k:Nat):Int:=(if i+1=L.length then 1 else 0) - sumIn (lk L i) ((L.drop (i+1)).take (k - (i+1))) ((moe (L.drop (i+1))).take (k - (i+1)))
theorem mpart_start (L:List (List Nat)) (i:Nat):mpart L i (i+1)=if i+1=L.length then 1 else 0:=by
 unfold mpart; simp [sumIn]
theorem mpart_step {L:List (List Nat)} {i k:Nat} (hi:i < k) (hk:k < L.length):mpart L i (k+1)=mpart L i k - if subB (lk L i) (lk L k)=true then mv L k else 0:=by
 unfold mpart
 have h1:(L.drop (i+1))[k - (i+1)]?=some (lk L k):=by
  rw [List.getElem?_drop,show i+1+(k - (i+1))=k by omega]; exact get_lk hk
 have h2:(moe (L.drop (i+1)))[k - (i+1)]?=some (mv L k):=by
  rw [<- moe_drop,List.getElem?_drop,show i+1+(k - (i+1))=k by omega]; exact mv_get hk
 rw [show k+1 - (i+1)=k - (i+1)+1 by omega,sumIn_take h1 h2]
 omega
theorem mpart_end {L:List (List Nat)} {i:Nat} (hi:i < L.length):mpart L i L.length=mv L i:=by
 have h1:(moe (L.drop i))[0]?=some (mv L i):=by
  rw [<- moe_drop,List.getElem?_drop]; exact mv_get hi
 rw [drop_cons (get_lk hi)] at h1
 have h2:(if L.drop (i+1)=[] then (1:Int) else 0) - sumIn (lk L i) (L.drop (i+1)) (moe (L.drop (i+1)))=mv L i:=by
  have:(moe (lk L i :: L.drop (i+1)))[0]?=some ((if L.drop (i+1)=[] then (1:Int) else 0) - sumIn (lk L i) (L.drop (i+1)) (moe (L.drop (i+1)))):=rfl
  rw [this] at h1
  exact Option.some.inj h1
 unfold mpart
 rw [List.take_of_length_le (by rw [List.length_drop]; exact Nat.le_refl _),List.take_of_length_le (by rw [moe_len,List.length_drop]; exact Nat.le_refl _),<- h2]
 congr 1
 have:L.drop (i+1)=[] ↔ i+1=L.length:=by rw [List.drop_eq_nil_iff]; omega
 simp only [this]
def mc (L:List (List Nat)) (r:Nat):List AV:=tbl L.length fun j=>.int .i64 (w64 (if r <= j then mv L j else 0))
theorem mc_end {L:List (List Nat)}:mc L 0=ic ((moe L).map w64):=by
 unfold mc
 refine List.ext_getElem? fun j=>?_
 by_cases hj:j < L.length
 ·rw [tbl_get hj,ic_get (show ((moe L).map w64)[j]?=some (w64 (mv L j)) by rw [List.getElem?_map,mv_get hj]; rfl),if_pos (Nat.zero_le _)]
 ·rw [List.getElem?_eq_none (by rw [tbl_len]; omega),List.getElem?_eq_none (by rw [ic_len,List.length_map,moe_len]; omega)]
section
variable {I:Oracle} (hS:Srt2 I) {h:AHeap} {vg:AV} {ls:List (List Int)} (hg:LsAt h vg ls) {d:Int} {l:List Pm} (o:OkG d ls l)
include hS hg o
theorem gMoe_ok:∃ v L h',lim otab.get I (.fn 29) [.agg [.int .i64 d,vg]] h=some (.tup [v,.int .i64 0],h')/\IAt h' v ((moe L).map w64)/\SubsL l.length (op l) L/\Gro h h':=by
 have hNo:=hS.srt.no
 have g1:=Gro.push h (.cells [.int .i64 d,vg] true)
 have b1:=box_all (h:=h) (c:=[.int .i64 d,vg]) (r:=true) (Gro.refl _) (n:=2) rfl
 have hl:=o.few
 obtain ⟨il,it,v,L,h2,f2,A2,T2,s2,g2⟩:=all_ok hS (hg.gro g1) o
 have hL:=subs_few o.tg hl s2.nd fun H hH=>(s2.mem H).1 hH
 have hLp:=s2.pos o.tg
 refine (lim_walk_ex (T:=otab.get) (I:=I) (f:=29) (fn:=of29) rfl (a:=[.agg [.int .i64 d,vg]]) (h:=h) (P:=fun w h'=>∃ v L,w = .tup [v,.int .i64 0]/\IAt h' v ((moe L).map w64)/\SubsL l.length (op l) L/\Gro h h') (hNo.at _ _ (by decide) (by decide) (by decide)) ?_) |> fun ⟨w,h',e,v,L,q1,q2⟩=>⟨v,L,h',by rw [e,q1],q2⟩
 show WK _ _ [] ⟨[.agg [.int .i64 d,vg],aundef,aundef,aundef,aundef,aundef],h⟩ _
 dsimp only [of29,Z.t,Z.f,Z.i,Z.q,Z.m,Z.l,Z.b,Z.c,Z.w]
 have sb:∀ n:Nat,n <= 512->bin .sub .no (.int .i64 (n:Int)) (.int .i64 1)=some (.int .i64 ((n:Int) - 1)):=fun n hn=>sub_i64 (by omega) (by omega)
 simp (disch:=omega) only [RSe.down,b1,f2,neqF,A2.subs,A2.s.len,mkslV_nat,len_sl,sb L.length hL]
 have c0:(h2.push (.cells (repl L.length [.int .i64 0]) true)).get h2.next=some (.cells (mc L L.length) true):=by
  rw [AHeap.get_push_same,tbl_repl]
  unfold mc
  congr 2
  exact tbl_congr fun j hj=>by rw [if_neg (by omega)]; rfl
 have g3:=Gro.push h2 (.cells (repl L.length [.int .i64 0]) true)
 have g12:=g1.trans g2
 have lt64:∀ {j},j < L.length->∀ x∈lk L j,x < 64:=fun hj x hx=>by have:=(s2.sub hj).lt x hx; omega
 refine WK_loopM (fun r s=>r <= L.length/\∃ y0 y4 y5 h',s=⟨[y0,.slice h2.next 0 L.length (.exact L.length),.int .i64 ((r:Int) - 1),.ptr il 0,y4,y5],h'⟩/\Gro h2 h'/\h2.next < h'.next/\h'.get h2.next=some (.cells (mc L r) true)) ?_ _ _
  ⟨Nat.le_refl _,_,_,_,_,rfl,g3,Nat.lt_succ_self _,c0⟩
 rintro r _ ⟨hr,y0,y4,y5,h',rfl,gh,hlt,hc⟩ next
 cases r with
 | zero =>
  simp (disch:=omega) only [RSe.down,geqF]
  refine ⟨(fun i hi=>by cases hi),_,rfl,_,L,rfl,?_,s2,g12.trans gh⟩
  rw [mc_end] at hc
  exact tab_at hlt hc (by rw [ic_len,List.length_map,moe_len]) (Nat.le_refl _)
 | succ i =>
  have ei:((i+1:Nat):Int) - 1=(i:Int):=by omega
  rw [ei]
  have hstart:∃ h3,h3.get h2.next=some (.cells (tbl L.length fun j=>if j=i then .int .i64 (w64 (mpart L i (i+1))) else .int .i64 (w64 (if i+1 <= j then mv L j else 0))) true)/\Gro h2 h3/\h2.next < h3.next/\(i+1=L.length->h3=h'.set h2.next (.cells (tbl L.length fun j=>if j=i then .int .i64 1 else .int .i64 (w64 (if i+1 <= j then mv L j else 0))) true))/\(i+1 ≠ L.length->h3=h'):=by
   rw [mpart_start]
   by_cases e:i+1=L.length
   ·rw [if_pos e]
    exact ⟨_,AHeap.get_set_same _ _ _,gh.set (Nat.le_refl _) _,hlt,fun _=>rfl,fun hh=>absurd e hh⟩
   ·rw [if_neg e]
    refine ⟨h',?_,gh,hlt,fun hh=>absurd hh e,fun _=>rfl⟩
    rw [hc]
    unfold mc
    congr 2
    refine tbl_congr fun j _=>?_
    by_cases ej:j=i
    ·rw [if_pos ej,ej,if_neg (by omega)]
    ·rw [if_neg ej]
  obtain ⟨h3,hc3,g3',hlt3,hs1,hs2⟩:=hstart
  rcases Classical.em (i+1=L.length) with e | e
  case' inl =>
   have e1:=stV_tbl (x := .int .i64 1) hc (show i < L.length by omega) rfl
   rw [<- hs1 e] at e1
   simp (disch:=omega) only [RSe.down,geqT,len_sl,sb L.length hL,eqlT,iaddrS,e1,add1N]
  case' inr =>
   simp (disch:=omega) only [RSe.down,geqT,len_sl,sb L.length hL,eqlF,add1N]
   rw [<- hs2 e]
  all_goals
   refine WK_loopM (fun z s=>∃ y4 y5 k h4,s=⟨[.int .i64 ((k:Nat):Int),.slice h2.next 0 L.length (.exact L.length),.int .i64 (i:Int),.ptr il 0,y4,y5],h4⟩/\Gro h2 h4/\h2.next < h4.next/\i < k/\k <= L.length/\z=L.length - k/\h4.get h2.next=some (.cells (tbl L.length fun j=>if j=i then .int .i64 (w64 (mpart L i k)) else .int .i64 (w64 (if i+1 <= j then mv L j else 0))) true)) ?_ _ _
    ⟨_,_,i+1,h3,rfl,g3',hlt3,by omega,by omega,rfl,hc3⟩
   rintro z _ ⟨z4,z5,k,h4,rfl,g4,hlt4,hik,hkn,rfl,hc4⟩ next2
   by_cases hkl:k < L.length
   ·have A4:=A2.gro g4
    have hiL:i < L.length:=by omega
    have a1:=A4.s.iaddr (q := .i64) hiL
    have a2:=A4.s.load (get_lk hiL)
    have k1:=A4.s.iaddr (q := .i64) hkl
    have k2:=A4.s.load (get_lk hkl)
    obtain ⟨h5,f5,g5⟩:=ws_in hNo (h:=h4) (lt64 hiL) (lt64 hkl)
    have hc5:h5.get h2.next=some (.cells (tbl L.length fun j=>if j=i then .int .i64 (w64 (mpart L i k)) else .int .i64 (w64 (if i+1 <= j then mv L j else 0))) true):=by rw [g5.same _ hlt4]; exact hc4
    have hlt5:h2.next < h5.next:=Nat.lt_of_lt_of_le hlt4 g5.le
    have hst:=mpart_step (L:=L) hik hkl
    cases es:subB (lk L i) (lk L k) with
    | true =>
     rw [es] at f5
     rw [es,if_pos rfl] at hst
     have v1:=tab_load hc5 hiL
     rw [if_pos rfl] at v1
     have v2:=tab_load hc5 hkl
     rw [if_neg (show ¬ k=i by omega),if_pos (show i+1 <= k by omega)] at v2
     have e6:=stV_tbl (x := .int .i64 (w64 (mpart L i k - mv L k))) hc5 hiL rfl
     simp (disch:=omega) only [RSf.down,len_sl,lssT,A4.subs,a1,a2,k1,k2,f5,iaddrS,v1,v2,sub_w64,e6,add1N]
     refine next2 (L.length - (k+1)) _ (by omega) ⟨_,_,k+1,_,rfl,(g4.trans g5).set (Nat.le_refl _) _,hlt5,by omega,by omega,rfl,?_⟩
     rw [AHeap.get_set_same]
     congr 2
     refine tbl_congr fun j _=>?_
     by_cases ej:j=i
     ·rw [if_pos ej,if_pos ej,hst]
     ·rw [if_neg ej,if_neg ej,if_neg ej]
    | false =>
     rw [es] at f5
     rw [es,if_neg (by decide),Int.sub_zero] at hst
     simp (disch:=omega) only [RSf.down,len_sl,lssT,A4.subs,a1,a2,k1,k2,f5,add1N]
     exact next2 (L.length - (k+1)) _ (by omega) ⟨_,_,k+1,_,rfl,g4.trans g5,hlt5,by omega,by omega,rfl,by rw [hst]; exact hc5⟩
   ·obtain rfl:k=L.length:=by omega
    have hi2:=sb i (by omega)
    simp (disch:=omega) only [RSf.down,len_sl,lssF,hi2]
    refine next i _ (by omega) ⟨by omega,_,_,_,h4,rfl,g4,hlt4,?_⟩
    rw [hc4]
    unfold mc
    congr 2
    refine tbl_congr fun j _=>?_
    by_cases ej:j=i
    ·rw [if_pos ej,ej,if_pos (Nat.le_refl _),mpart_end (by omega)]
    ·rw [if_neg ej]
     by_cases hij:i <= j
     ·rw [if_pos (show i+1 <= j by omega),if_pos hij]
     ·rw [if_neg (show ¬ i+1 <= j by omega),if_neg hij]
end
end Go.AM
namespace Go.AM
open Go Go.GT
def c2p (P:List (Nat × Nat)):List AV:=P.flatMap fun p=>[.int .i64 (p.1:Int),.int .i64 (p.2:Int)]
theorem c2p_app {P R:List (Nat × Nat)}:c2p (P ++ R)=c2p P ++ c2p R:=by unfold c2p; rw [List.flatMap_append]
def P2At (h:AHeap) (v:AV) (P:List (Nat × Nat)):Prop:=Own 2 h v P.length (c2p P)
theorem flat_le {α β:Type} {f:α->List β} {t:Nat}:∀ {l:List α},(∀ a∈l,(f a).length <= t)->(l.flatMap f).length <= l.length * t
 | [],_=>by simp
 | a :: l,h=>by
  have:=flat_le (l:=l) fun b hb=>h b (.tail _ hb)
  have:=h a (.head _)
  rw [List.flatMap_cons,List.length_append,List.length_cons,Nat.add_mul,Nat.one_mul]; omega
def covTo (L:List (List Nat)) (i:Nat):List (Nat × Nat):=(List.range i).flatMap fun i=>((List.range L.length).filter (covB L i)).map fun k=>(i,k)
theorem covTo_len {L:List (List Nat)} {i:Nat}:(covTo L i).length <= i * L.length:=by
 have:=flat_le (f:=fun i=>((List.range L.length).filter (covB L i)).map fun k=>(i,k)) (t:=L.length) (l:=List.range i) fun a _=>by
  rw [List.length_map]
  have:=List.length_filter_le (covB L a) (List.range L.length)
  rwa [List.length_range] at this
 rwa [List.length_range] at this
theorem covTo_succ {L:List (List Nat)} {i:Nat}:covTo L (i+1)=covTo L i ++ ((List.range L.length).filter (covB L i)).map fun k=>(i,k):=by
 unfold covTo
 rw [List.range_succ,List.flatMap_append]; simp
section
variable {I:Oracle} (hS:Srt2 I) {h:AHeap} {vg:AV} {ls:List (List Int)} (hg:LsAt h vg ls) {d:Int} {l:List Pm} (o:OkG d ls l)
include hS hg o
theorem gCov_ok:∃ v L h',lim otab.get I (.fn 37) [.agg [.int .i64 d,vg]] h=some (.tup [v,.int .i64 0],h')/\P2At h' v (covL L)/\SubsL l.length (op l) L/\Gro h h'/\∀ j,oid v=some j->h.next <= j:=by
 have hNo:=hS.srt.no
 have g1:=Gro.push h (.cells [.int .i64 d,vg] true)
 have b1:=box_all (h:=h) (c:=[.int .i64 d,vg]) (r:=true) (Gro.refl _) (n:=2) rfl
 have hl:=o.few
 obtain ⟨il,it,v,L,h2,f2,A2,T2,s2,g2⟩:=all_ok hS (hg.gro g1) o
 have hL:=subs_few o.tg hl s2.nd fun H hH=>(s2.mem H).1 hH
 have g12:=g1.trans g2
 refine (lim_walk_ex (T:=otab.get) (I:=I) (f:=37) (fn:=of37) rfl (a:=[.agg [.int .i64 d,vg]]) (h:=h) (P:=fun w h'=>∃ v L,w = .tup [v,.int .i64 0]/\P2At h' v (covL L)/\SubsL l.length (op l) L/\Gro h h'/\∀ j,oid v=some j->h.next <= j) (hNo.at _ _ (by decide) (by decide) (by decide)) ?_) |> fun ⟨w,h',e,v,L,q1,q2⟩=>⟨v,L,h',by rw [e,q1],q2⟩
 show WK _ _ [] ⟨[.agg [.int .i64 d,vg],aundef,aundef,aundef,aundef,aundef,aundef],h⟩ _
 dsimp only [of37,Z.t,Z.f,Z.i,Z.q,Z.m,Z.l,Z.b,Z.c,Z.w]
 simp (disch:=omega) only [RSe.down,b1,f2,neqF,A2.subs,A2.s.len]
 refine WK_loopJ (fun i s=>i <= L.length/\∃ y0 v2 y3 y5 h',s=⟨[y0,.int .i64 (i:Int),v2,y3,.ptr il 0,y5,.int .i64 (L.length:Int)],h'⟩/\Gro h2 h'/\P2At h' v2 (covTo L i)/\∀ j,oid v2=some j->h2.next <= j) L.length
  ⟨Nat.zero_le _,_,_,_,_,h2,rfl,Gro.refl _,Own.nil,fun j hj=>by cases hj⟩ ?_
 rintro i hi _ ⟨_,y0,v2,y3,y5,h',rfl,g3,p3,fr3⟩ next
 by_cases hil:i < L.length
 ·have A3:=A2.gro g3
  simp (disch:=omega) only [RSe.down,lssT,A3.subs,A3.s.len]
  refine WK_loopJ (fun k s=>k <= L.length/\∃ v2 y3 h',s=⟨[.int .i64 (k:Int),.int .i64 (i:Int),v2,y3,.ptr il 0,.int .i64 (L.length:Int),.int .i64 (L.length:Int)],h'⟩/\Gro h2 h'/\P2At h' v2 (covTo L i ++ ((List.range k).filter (covB L i)).map fun k=>(i,k))/\∀ j,oid v2=some j->h2.next <= j) L.length
   ⟨Nat.zero_le _,_,_,h',rfl,g3,by simpa using p3,fr3⟩ ?_
  rintro k hk _ ⟨_,w2,z3,h4,rfl,g4,p4,fr4⟩ next2
  by_cases hkl:k < L.length
  ·obtain ⟨h5,f5,g5⟩:=covers_spec hNo (A2.gro g4) o.tg s2 (by omega) hL hil hkl
   have hr:(covTo L i ++ ((List.range (k+1)).filter (covB L i)).map fun k=>(i,k))=(covTo L i ++ ((List.range k).filter (covB L i)).map fun k=>(i,k)) ++ if covB L i k=true then [(i,k)] else []:=by
    rw [List.range_succ,List.filter_append,List.filter_cons,List.filter_nil,List.map_append,List.append_assoc]
    congr 2
    split <;> rfl
   have o5:=Own.gro p4 g5
   cases ep:covB L i k with
   | true =>
    rw [ep] at f5
    rw [if_pos ep] at hr
    have hb:(covTo L i ++ ((List.range k).filter (covB L i)).map fun k=>(i,k)).length <= 512 * 512+512:=by
     have h1:=covTo_len (L:=L) (i:=i)
     have h2:i * L.length <= 512 * 512:=Nat.mul_le_mul (by omega) hL
     have h3:=List.length_filter_le (covB L i) (List.range k)
     rw [List.length_range] at h3
     rw [List.length_append,List.length_map]; omega
    obtain ⟨b',h6,e6,o6,c6,j6,x6⟩:=o5.app1 (bytes:=16) (c:=[.int .i64 (i:Int),.int .i64 (k:Int)]) rfl rfl (by decide) (by omega)
    have hbl:∀ tm:List AV,nth tm 1 = .int .i64 (i:Int)->nth tm 0 = .int .i64 (k:Int)->evalQ (.build [.int .i64 0,.int .i64 0] [(0,1,.tmp 1),(1,1,.tmp 0)]) tm h5=some (.agg [.int .i64 (i:Int),.int .i64 (k:Int)]):=fun tm e1 e2=>by
     simp only [evalQ,fills,ev_tmp,e1,e2]; rfl
    have eb:∀ (tm:List AV),nth tm 3 = .agg [.int .i64 (i:Int),.int .i64 (k:Int)]->evalA (.bslice 1 2 [.int .i64 0,.int .i64 0] [(0,.tmp 3)]) tm h5=some (.cells [.int .i64 (i:Int),.int .i64 (k:Int)] true,.slice h5.next 0 1 (.exact 1)):=fun tm e=>by
     simp only [evalA,fillsS,ev_tmp,e]; rfl
    simp (disch:=omega) only [RSe.down,lssT,f5]
    rw [hbl _ rfl rfl]
    simp (disch:=omega) only [RSe.down]
    rw [eb _ rfl]
    simp (disch:=omega) only [RSe.down,e6,add1N]
    refine next2 hkl _ ⟨by omega,_,_,h6,rfl,(g4.trans g5).chg_new c6 fun j hj=>fr4 j hj,?_,fun j hj=>?_⟩
    ·rw [hr]
     unfold P2At
     rw [List.length_append,c2p_app]; exact o6
    ·rw [j6] at hj; cases hj; have:=(g4.trans g5).le; omega
   | false =>
    rw [ep] at f5
    rw [if_neg (by rw [ep]; decide),List.append_nil] at hr
    simp (disch:=omega) only [RSe.down,lssT,f5,add1N]
    exact next2 hkl _ ⟨by omega,_,_,h5,rfl,g4.trans g5,by rw [hr]; exact o5,fr4⟩
  ·obtain rfl:k=L.length:=by omega
   simp (disch:=omega) only [RSe.down,lssF,add1N]
   exact next hil _ ⟨by omega,_,_,_,_,h4,rfl,g4,by rw [covTo_succ]; exact p4,fr4⟩
 ·obtain rfl:i=L.length:=by omega
  simp (disch:=omega) only [RSe.down,lssF]
  refine ⟨(fun i hi=>by cases hi),_,rfl,v2,L,rfl,p3,s2,g12.trans g3,fun j hj=>?_⟩
  have:=fr3 j hj; have:=g12.le; omega
end
end Go.AM
namespace Go.AM
open Go Go.GT
theorem pm_push (h:AHeap) (p:Pm):PmAt (h.push (.cells (pc p) true)) (.slice h.next 0 p.length (.exact p.length)) p:=by
 have:=tab_at (h:=h.push (.cells (pc p) true)) (i:=h.next) (Nat.lt_succ_self _) (AHeap.get_push_same h _) (pc_len (p:=p)) (show capOK 1 p.length (.exact p.length) from Nat.le_refl _)
 exact this
theorem ints_push (h:AHeap) (p:List Int):IAt (h.push (.cells (ic p) true)) (.slice h.next 0 p.length (.exact p.length)) p:=by
 have:=tab_at (h:=h.push (.cells (ic p) true)) (i:=h.next) (Nat.lt_succ_self _) (AHeap.get_push_same h _) (ic_len (l:=p)) (show capOK 1 p.length (.exact p.length) from Nat.le_refl _)
 exact this
theorem lat_push {α:Type} {P:AHeap->AV->α->Prop} (hP:∀ (h h':AHeap) (v:AV) (x:α),P h v x->Gro h h'->P h' v x) {h:AHeap} {c:List AV} {xs:List α} (hl:c.length=xs.length) (he:∀ (i:Nat) (a:AV) (x:α),c[i]?=some a->xs[i]?=some x->P h a x):LAt P (h.push (.cells c true)) (.slice h.next 0 xs.length (.exact xs.length)) xs :=
 ⟨c,tab_at (Nat.lt_succ_self _) (AHeap.get_push_same h _) hl (Nat.le_refl _),hl,fun i a x h1 h2=>hP _ _ _ _ (he i a x h1 h2) (Gro.push h _)⟩
section
variable {I:Oracle} {f:Nat} (hf:otab.get f=some of99) (hI:∀ a h,I f a h=none) {h:AHeap}
include hf hI
theorem three_fn:∃ vg h',lim otab.get I (.fn f) [] h=some (.agg [.int .i64 3,vg],h')/\LsAt h' vg [[1,0,2],[1,2,0]]/\Gro h h':=by
 refine (lim_walk_ex (T:=otab.get) (I:=I) (f:=f) (fn:=of99) hf (a:=[]) (h:=h) (P:=fun a h'=>∃ vg,a = .agg [.int .i64 3,vg]/\LsAt h' vg [[1,0,2],[1,2,0]]/\Gro h h') (hI _ _) ?_) |> fun ⟨a,h',e,vg,q1,q2⟩=>⟨vg,h',by rw [e,q1],q2⟩
 show WK _ _ [] ⟨[aundef,aundef,aundef],h⟩ _
 dsimp only [of99,Z.t,Z.f,Z.i,Z.q,Z.m,Z.l,Z.b,Z.c,Z.w]
 have g1:=Gro.push h (.cells [.int .i64 0,.nils] true)
 have q1:=AHeap.get_push_same h (.cells [.int .i64 0,.nils] true)
 have x1:(h.push (.cells [.int .i64 0,.nils] true)).next=h.next+1:=rfl
 simp (disch:=omega) only [RSe.down]
 generalize h.push (.cells [.int .i64 0,.nils] true)=h1 at g1 q1 x1 ⊢
 have e2:∀ tm:List AV,evalA (.bslice 3 1 [.int .i64 0,.int .i64 0,.int .i64 0] [(0,.lit (.int .i64 1)),(1,.lit (.int .i64 0)),(2,.lit (.int .i64 2))]) tm h1=some (.cells (ic [1,0,2]) true,.slice h1.next 0 3 (.exact 3)):=fun _=>rfl
 rw [e2]
 have p2:=ints_push h1 [1,0,2]
 have g2:=Gro.push h1 (.cells (ic [1,0,2]) true)
 have x2:(h1.push (.cells (ic [1,0,2]) true)).next=h.next+2:=by rw [AHeap.next_push,x1]
 simp (disch:=omega) only [RSe.down]
 generalize h1.push (.cells (ic [1,0,2]) true)=h2 at p2 g2 x2 ⊢
 have e3:∀ tm:List AV,evalA (.bslice 3 1 [.int .i64 0,.int .i64 0,.int .i64 0] [(0,.lit (.int .i64 1)),(1,.lit (.int .i64 2)),(2,.lit (.int .i64 0))]) tm h2=some (.cells (ic [1,2,0]) true,.slice h2.next 0 3 (.exact 3)):=fun _=>rfl
 rw [e3]
 have p3:=ints_push h2 [1,2,0]
 have g3:=Gro.push h2 (.cells (ic [1,2,0]) true)
 have x3:(h2.push (.cells (ic [1,2,0]) true)).next=h.next+3:=by rw [AHeap.next_push,x2]
 have p2':=IAt.gro p2 g3
 simp (disch:=omega) only [RSe.down]
 generalize h2.push (.cells (ic [1,2,0]) true)=h3 at p3 g3 x3 p2' ⊢
 have e4:∀ tm:List AV,nth tm 1 = .slice h1.next 0 3 (.exact 3)->nth tm 2 = .slice h2.next 0 3 (.exact 3)->evalA (.bslice 2 1 [.nils,.nils] [(0,.tmp 1),(1,.tmp 2)]) tm h3=some (.cells [.slice h1.next 0 3 (.exact 3),.slice h2.next 0 3 (.exact 3)] true,.slice h3.next 0 2 (.exact 2)):=fun tm a b=>by
  simp only [evalA,fillsS,ev_tmp,a,b]; rfl
 rw [e4 _ rfl rfl]
 have p4:SlAt (h3.push (.cells [.slice h1.next 0 3 (.exact 3),.slice h2.next 0 3 (.exact 3)] true)) (.slice h3.next 0 2 (.exact 2)) [.slice h1.next 0 3 (.exact 3),.slice h2.next 0 3 (.exact 3)]:=tab_at (Nat.lt_succ_self _) (AHeap.get_push_same h3 _) rfl (Nat.le_refl _)
 have g4:=Gro.push h3 (.cells [.slice h1.next 0 3 (.exact 3),.slice h2.next 0 3 (.exact 3)] true)
 simp (disch:=omega) only [RSe.down]
 generalize h3.push (.cells [.slice h1.next 0 3 (.exact 3),.slice h2.next 0 3 (.exact 3)] true)=h4 at p4 g4 ⊢
 have e5:∀ tm:List AV,nth tm 1 = .slice h3.next 0 2 (.exact 2)->evalQ (.build [.int .i64 0,.nils] [(0,1,.lit (.int .i64 3)),(1,1,.tmp 1)]) tm h4=some (.agg [.int .i64 3,.slice h3.next 0 2 (.exact 2)]):=fun tm a=>by
  simp only [evalQ,fills,ev_tmp,ev_lit,a]; rfl
 rw [e5 _ rfl]
 have g14:=(g2.trans g3).trans g4
 have q4:h4.get h.next=some (.cells [.int .i64 0,.nils] true):=by rw [g14.same _ (by omega)]; exact q1
 have e6:stV 2 (.ptr h.next 0) (.agg [.int .i64 3,.slice h3.next 0 2 (.exact 2)]) h4=some (aundef,h4.set h.next (.cells [.int .i64 3,.slice h3.next 0 2 (.exact 2)] true)):=stV_two q4 rfl rfl
 simp (disch:=omega) only [RSe.down,e6]
 refine ⟨(fun i hi=>by cases hi),.agg [.int .i64 3,.slice h3.next 0 2 (.exact 2)],result_cell rfl (loadV_two (AHeap.get_set_same _ _ _)),_,rfl,?_,(g1.trans g14).set (Nat.le_refl _) _⟩
 have cg:Chg (fun j=>j=h.next) h4 (h4.set h.next (.cells [.int .i64 3,.slice h3.next 0 2 (.exact 2)] true)):=Chg.set (F:=fun j=>j=h.next) h4 rfl _
 have a1:=SlAt.chg (IAt.gro p2' g4) cg fun j hj e=>by cases hj; omega
 have a2:=SlAt.chg (IAt.gro p3 g4) cg fun j hj e=>by cases hj; omega
 have a3:=SlAt.chg p4 cg fun j hj e=>by cases hj; omega
 refine ⟨_,a3,rfl,fun i a x hi hx=>?_⟩
 match i,hi,hx with
 | 0,hi,hx=>cases hi; cases hx; exact a1
 | 1,hi,hx=>cases hi; cases hx; exact a2
 | i+2,hi,hx=>simp at hi
end
end Go.AM
namespace Go.AM
open Go Go.GT
theorem s3_ok:OkG 3 [[1,0,2],[1,2,0]] s3e:=⟨by decide,s3_el,by decide⟩
def PmB (h:AHeap) (v:AV) (p:Pm):Prop:=PmAt h v p/\p.length <= 1000000
section
variable {I:Oracle} (hNo:NoI I) {h:AHeap} {va vb:AV}
include hNo
theorem same_lists {L M:List Pm} (ha:LAt PmB h va L) (hb:LAt PmB h vb M) (hl:L.length <= 1000000):lim otab.get I (.fn 26) [va,vb] h=some (.bool (decide (L=M)),h) :=
 lists_fn (P:=PmB) rfl (fun _ _=>hNo.at _ _ (by decide) (by decide) (by decide)) (fun _ _ _ _ h1 h2=>same_pm hNo h1.1 h2.1 h1.2) ha hb hl
end
theorem PL.bd {h:AHeap} {v:AV} {c:List AV} {L:List Pm} (p:PL h v c L) (hb:∀ H∈L,H.length <= 1000000):LAt PmB h v L :=
 ⟨c,p.own.at,p.len,fun i a x hi hx=>⟨p.el i a x hi hx,hb x (List.mem_of_getElem? hx)⟩⟩
section
variable {I:Oracle} (hS:Srt2 I) {h:AHeap}
include hS
theorem awake28_spec:∃ h',lim otab.get I (.fn 22) [] h=some (.bool true,h')/\Gro h h':=by
 have hNo:=hS.srt.no
 have h3:∀ {h:AHeap}, ∃ vg h',lim otab.get I (.fn 99) [] h=some (.agg [.int .i64 3,vg],h')/\LsAt h' vg [[1,0,2],[1,2,0]]/\Gro h h':=three_fn rfl fun _ _=>hNo.at _ _ (by decide) (by decide) (by decide)
 obtain ⟨va,h1,f1,q1,g1⟩:=h3 (h:=h)
 obtain ⟨v2,c2,L2,h2,f2,p2,s2,g2,_⟩:=gAll_ok hS q1 s3_ok
 obtain rfl:=s2.unique s3_subs
 obtain ⟨vb,h3',f3,q3,g3⟩:=h3 (h:=h2)
 obtain ⟨v4,L4,h4,f4,p4,s4,g4⟩:=gNor_ok hS q3 s3_ok
 obtain rfl:=s4.unique s3_subs
 obtain ⟨vc,h5,f5,q5,g5⟩:=h3 (h:=h4)
 obtain ⟨v6,L6,h6,f6,p6,s6,g6⟩:=gMax_ok hS q5 s3_ok
 obtain rfl:=s6.unique s3_subs
 obtain ⟨vd,h7,f7,q7,g7⟩:=h3 (h:=h6)
 obtain ⟨v8,L8,h8,f8,p8,s8,g8⟩:=gMoe_ok hS q7 s3_ok
 obtain rfl:=s8.unique s3_subs
 have w8:(moe s3L).map w64=[3, -1, -1, -1, -1,1]:=by rw [s3_moe]; decide
 rw [w8] at p8
 have n4:norL s3e.length (op s3e) s3L=[0,4,5]:=s3_nor
 rw [n4] at p4
 rw [s3_max] at p6
 refine (lim_walk_ex (T:=otab.get) (I:=I) (f:=22) (fn:=of22) rfl (a:=[]) (h:=h) (P:=fun a h'=>a = .bool true/\Gro h h') (hNo.at _ _ (by decide) (by decide) (by decide)) ?_) |> fun ⟨a,h',e,q1,q2⟩=>⟨h',by rw [e,q1],q2⟩
 show WK _ _ [] ⟨[aundef,aundef,aundef,aundef,aundef,aundef,aundef,aundef,aundef,aundef,aundef],h⟩ _
 dsimp only [of22,Z.t,Z.f,Z.i,Z.q,Z.m,Z.l,Z.b,Z.c,Z.w]
 have b2:∀ (tm:List AV) (hh:AHeap),evalA (.bslice 2 1 [.int .i64 0,.int .i64 0] [(0,.lit (.int .i64 0)),(1,.lit (.int .i64 1))]) tm hh=some (.cells (pc [0,1]) true,.slice hh.next 0 2 (.exact 2)):=fun _ _=>rfl
 have b3:∀ (tm:List AV) (hh:AHeap),evalA (.bslice 2 1 [.int .i64 0,.int .i64 0] [(0,.lit (.int .i64 0)),(1,.lit (.int .i64 2))]) tm hh=some (.cells (pc [0,2]) true,.slice hh.next 0 2 (.exact 2)):=fun _ _=>rfl
 have b4:∀ (tm:List AV) (hh:AHeap),evalA (.bslice 2 1 [.int .i64 0,.int .i64 0] [(0,.lit (.int .i64 0)),(1,.lit (.int .i64 5))]) tm hh=some (.cells (pc [0,5]) true,.slice hh.next 0 2 (.exact 2)):=fun _ _=>rfl
 have b5:∀ (tm:List AV) (hh:AHeap),evalA (.bslice 3 1 [.int .i64 0,.int .i64 0,.int .i64 0] [(0,.lit (.int .i64 0)),(1,.lit (.int .i64 3)),(2,.lit (.int .i64 4))]) tm hh=some (.cells (pc [0,3,4]) true,.slice hh.next 0 3 (.exact 3)):=fun _ _=>rfl
 have b6:∀ (tm:List AV) (hh:AHeap),evalA (.bslice 6 1 [.int .i64 0,.int .i64 0,.int .i64 0,.int .i64 0,.int .i64 0,.int .i64 0] [(0,.lit (.int .i64 0)),(1,.lit (.int .i64 1)),(2,.lit (.int .i64 2)),(3,.lit (.int .i64 3)),(4,.lit (.int .i64 4)),(5,.lit (.int .i64 5))]) tm hh=some (.cells (pc [0,1,2,3,4,5]) true,.slice hh.next 0 6 (.exact 6)):=fun _ _=>rfl
 have b8:∀ (tm:List AV) (hh:AHeap),evalA (.bslice 3 1 [.int .i64 0,.int .i64 0,.int .i64 0] [(0,.lit (.int .i64 0)),(1,.lit (.int .i64 4)),(2,.lit (.int .i64 5))]) tm hh=some (.cells (pc [0,4,5]) true,.slice hh.next 0 3 (.exact 3)):=fun _ _=>rfl
 have b9:∀ (tm:List AV) (hh:AHeap),evalA (.bslice 4 1 [.int .i64 0,.int .i64 0,.int .i64 0,.int .i64 0] [(0,.lit (.int .i64 1)),(1,.lit (.int .i64 2)),(2,.lit (.int .i64 3)),(3,.lit (.int .i64 4))]) tm hh=some (.cells (pc [1,2,3,4]) true,.slice hh.next 0 4 (.exact 4)):=fun _ _=>rfl
 have b10:∀ (tm:List AV) (hh:AHeap),evalA (.bslice 6 1 [.int .i64 0,.int .i64 0,.int .i64 0,.int .i64 0,.int .i64 0,.int .i64 0] [(0,.lit (.int .i64 3)),(1,.lit (.int .i64 (-1))),(2,.lit (.int .i64 (-1))),(3,.lit (.int .i64 (-1))),(4,.lit (.int .i64 (-1))),(5,.lit (.int .i64 1))]) tm hh=some (.cells (ic [3, -1, -1, -1, -1,1]) true,.slice hh.next 0 6 (.exact 6)):=fun _ _=>rfl
 have ga:Gro h h8:=g1.trans (g2.trans (g3.trans (g4.trans (g5.trans (g6.trans (g7.trans g8))))))
 have p2':=p2.gro (g3.trans (g4.trans (g5.trans (g6.trans (g7.trans g8)))))
 have p4':=p4.gro (g5.trans (g6.trans (g7.trans g8)))
 have p6':=p6.gro (g7.trans g8)
 simp (disch:=omega) only [RSe.down,f1,f2,f3,f4,f5,f6,f7,f8,neqF]
 clear f1 f2 f3 f4 f5 f6 f7 f8 p2 p4 p6 q1 q3 q5 q7 g1 g2 g3 g4 g5 g6 g7 g8
 rw [show AObj.cells [AV.int .i64 0] true = .cells (pc [0]) true from rfl]
 have k1:=pm_push h8 [0]
 have gb:=Gro.push h8 (.cells (pc [0]) true)
 generalize h8.push (.cells (pc [0]) true)=ha at k1 gb ⊢
 rw [b2]
 have k2:=pm_push ha [0,1]
 have gc:=Gro.push ha (.cells (pc [0,1]) true)
 have k1:=k1.gro gc
 simp (disch:=omega) only [RSe.down]
 generalize ha.push (.cells (pc [0,1]) true)=hb at k1 k2 gc ⊢
 rw [b3]
 have k3:=pm_push hb [0,2]
 have gd:=Gro.push hb (.cells (pc [0,2]) true)
 have k1:=k1.gro gd
 have k2:=k2.gro gd
 simp (disch:=omega) only [RSe.down]
 generalize hb.push (.cells (pc [0,2]) true)=hc at k1 k2 k3 gd ⊢
 rw [b4]
 have k4:=pm_push hc [0,5]
 have ge:=Gro.push hc (.cells (pc [0,5]) true)
 have k1:=k1.gro ge
 have k2:=k2.gro ge
 have k3:=k3.gro ge
 simp (disch:=omega) only [RSe.down]
 generalize hc.push (.cells (pc [0,5]) true)=hd at k1 k2 k3 k4 ge ⊢
 rw [b5]
 have k5:=pm_push hd [0,3,4]
 have gf:=Gro.push hd (.cells (pc [0,3,4]) true)
 have k1:=k1.gro gf
 have k2:=k2.gro gf
 have k3:=k3.gro gf
 have k4:=k4.gro gf
 simp (disch:=omega) only [RSe.down]
 generalize hd.push (.cells (pc [0,3,4]) true)=he at k1 k2 k3 k4 k5 gf ⊢
 rw [b6]
 have k6:=pm_push he [0,1,2,3,4,5]
 have gg:=Gro.push he (.cells (pc [0,1,2,3,4,5]) true)
 have k1:=k1.gro gg
 have k2:=k2.gro gg
 have k3:=k3.gro gg
 have k4:=k4.gro gg
 have k5:=k5.gro gg
 simp (disch:=omega) only [RSe.down]
 generalize he.push (.cells (pc [0,1,2,3,4,5]) true)=hf at k1 k2 k3 k4 k5 k6 gg ⊢
 have b7 : ∀ (tm : List AV),nth tm 2 = .slice h8.next 0 1 (.exact 1)->nth tm 4 = .slice ha.next 0 2 (.exact 2)->nth tm 6 = .slice hb.next 0 2 (.exact 2)->nth tm 8 = .slice hc.next 0 2 (.exact 2)->nth tm 9 = .slice hd.next 0 3 (.exact 3)->nth tm 10 = .slice he.next 0 6 (.exact 6) ->
   evalA (.bslice 6 1 [.nils,.nils,.nils,.nils,.nils,.nils] [(0,.tmp 2),(1,.tmp 4),(2,.tmp 6),(3,.tmp 8),(4,.tmp 9),(5,.tmp 10)]) tm hf=some (.cells [.slice h8.next 0 1 (.exact 1),.slice ha.next 0 2 (.exact 2),.slice hb.next 0 2 (.exact 2),.slice hc.next 0 2 (.exact 2),.slice hd.next 0 3 (.exact 3),.slice he.next 0 6 (.exact 6)] true,.slice hf.next 0 6 (.exact 6)):=fun tm e1 e2 e3 e4 e5 e6=>by
  simp only [evalA,fillsS,ev_tmp,e1,e2,e3,e4,e5,e6]; rfl
 rw [b7 _ rfl rfl rfl rfl rfl rfl]
 have k7:LAt PmB (hf.push (.cells [.slice h8.next 0 1 (.exact 1),.slice ha.next 0 2 (.exact 2),.slice hb.next 0 2 (.exact 2),.slice hc.next 0 2 (.exact 2),.slice hd.next 0 3 (.exact 3),.slice he.next 0 6 (.exact 6)] true)) (.slice hf.next 0 6 (.exact 6)) s3L:=by
  refine lat_push (xs:=s3L) (P:=PmB) (fun _ _ _ _ s g=>⟨SlAt.gro s.1 g,s.2⟩) rfl fun i a x hi hx=>?_
  match i,hi,hx with
  | 0,hi,hx=>cases hi; cases hx; exact ⟨k1,by decide⟩
  | 1,hi,hx=>cases hi; cases hx; exact ⟨k2,by decide⟩
  | 2,hi,hx=>cases hi; cases hx; exact ⟨k3,by decide⟩
  | 3,hi,hx=>cases hi; cases hx; exact ⟨k4,by decide⟩
  | 4,hi,hx=>cases hi; cases hx; exact ⟨k5,by decide⟩
  | 5,hi,hx=>cases hi; cases hx; exact ⟨k6,by decide⟩
  | i+6,hi,hx=>simp at hi
 have gh:=Gro.push hf (.cells [.slice h8.next 0 1 (.exact 1),.slice ha.next 0 2 (.exact 2),.slice hb.next 0 2 (.exact 2),.slice hc.next 0 2 (.exact 2),.slice hd.next 0 3 (.exact 3),.slice he.next 0 6 (.exact 6)] true)
 simp (disch:=omega) only [RSe.down]
 generalize hf.push (.cells [.slice h8.next 0 1 (.exact 1),.slice ha.next 0 2 (.exact 2),.slice hb.next 0 2 (.exact 2),.slice hc.next 0 2 (.exact 2),.slice hd.next 0 3 (.exact 3),.slice he.next 0 6 (.exact 6)] true)=hg at k7 gh ⊢
 have g8g:Gro h8 hg:=gb.trans (gc.trans (gd.trans (ge.trans (gf.trans (gg.trans gh)))))
 have fs:=same_lists hNo ((p2'.gro g8g).bd (by decide)) k7 (by decide)
 rw [decide_eq_true rfl] at fs
 simp (disch:=omega) only [RSe.down,fs,not_bool,Bool.not_true]
 rw [b8]
 have j1:=pm_push hg [0,4,5]
 have gi:=Gro.push hg (.cells (pc [0,4,5]) true)
 simp (disch:=omega) only [RSe.down]
 generalize hg.push (.cells (pc [0,4,5]) true)=hh at j1 gi ⊢
 have ft:=same_pm hNo (p4'.gro (g8g.trans gi)) j1 (by decide)
 rw [decide_eq_true rfl] at ft
 have ft':lim otab.get I (.fn 31) [v4,.slice hg.next 0 3 (.exact 3)] hh=some (.bool true,hh):=ft
 simp (disch:=omega) only [RSe.down,ft']
 rw [b9]
 have j2:=pm_push hh [1,2,3,4]
 have gj:=Gro.push hh (.cells (pc [1,2,3,4]) true)
 simp (disch:=omega) only [RSe.down]
 generalize hh.push (.cells (pc [1,2,3,4]) true)=hi at j2 gj ⊢
 have fu:=same_pm hNo (p6'.gro ((g8g.trans gi).trans gj)) j2 (by decide)
 rw [decide_eq_true rfl] at fu
 have fu':lim otab.get I (.fn 31) [v6,.slice hh.next 0 4 (.exact 4)] hi=some (.bool true,hi):=fu
 simp (disch:=omega) only [RSe.down,fu']
 rw [b10]
 have j3:=ints_push hi [3, -1, -1, -1, -1,1]
 have gk:=Gro.push hi (.cells (ic [3, -1, -1, -1, -1,1]) true)
 simp (disch:=omega) only [RSe.down]
 generalize hi.push (.cells (ic [3, -1, -1, -1, -1,1]) true)=hj at j3 gk ⊢
 have fv:=same_ints hNo (p8.gro (((g8g.trans gi).trans gj).trans gk)) j3 (by decide)
 rw [decide_eq_true rfl] at fv
 have fv':lim otab.get I (.fn 31) [v8,.slice hi.next 0 6 (.exact 6)] hj=some (.bool true,hj):=fv
 simp (disch:=omega) only [RSe.down,fv']
 exact ⟨(fun i hi=>by cases hi),_,rfl,rfl,ga.trans (((g8g.trans gi).trans gj).trans gk)⟩
end
end Go.AM
namespace Go.AM
open Go Go.GT
section
variable {I:Oracle} (hNo:NoI I) {h:AHeap}
include hNo
theorem table28_spec {vg:AV} {ls:List (List Int)} (hg:LsAt h vg ls) {d:Int} {l:List Pm} (o:OkG d ls l):∃ v c h',lim otab.get I (.fn 25) [.agg [.int .i64 d,vg]] h=some (v,h')/\PL h' v c (rowsT l.length (op l))/\Gro h h':=by
 refine (lim_walk_ex (T:=otab.get) (I:=I) (f:=25) (fn:=of25) rfl (a:=[.agg [.int .i64 d,vg]]) (h:=h) (P:=fun v h'=>∃ c,PL h' v c (rowsT l.length (op l))/\Gro h h') (hNo.at _ _ (by decide) (by decide) (by decide)) ?_) |> fun ⟨v,h',e,c,q⟩=>⟨v,c,h',e,q⟩
 show WK _ _ [] ⟨[.agg [.int .i64 d,vg],aundef],h⟩ _
 dsimp only [of25,Z.t,Z.f,Z.i,Z.q,Z.m,Z.l,Z.b,Z.c,Z.w]
 have g1:=Gro.push h (.cells [.int .i64 d,vg] true)
 have b1:=box_all (h:=h) (c:=[.int .i64 d,vg]) (r:=true) (Gro.refl _) (n:=2) rfl
 have hl:=o.few
 obtain ⟨n,rfl,hn,hl32,hls,hS⟩:=group_of_ok o.ok
 obtain ⟨v,h5,f5,g5,r⟩:=elements_spec hNo ((hg.gro g1).pms hls) hS (by omega) (by unfold gS; rw [List.length_map]; omega)
 rcases r with ⟨l',va,ca,r1,r2,rfl,r4,r5⟩ | ⟨r1,rfl⟩
 ·obtain rfl:l'=l:=r1.unique o.el
  obtain ⟨v6,c6,h6,f6,p6,g6,_⟩:=table27_spec hNo r4.pms hS r1 (by omega) (by omega)
  simp (disch:=omega) only [RSe.down,b1,f5,f6]
  exact ⟨(fun i hi=>by cases hi),_,rfl,c6,p6,g1.trans (g5.trans g6)⟩
 ·exact absurd ⟨l,o.el,by omega⟩ r1
end
end Go.AM
